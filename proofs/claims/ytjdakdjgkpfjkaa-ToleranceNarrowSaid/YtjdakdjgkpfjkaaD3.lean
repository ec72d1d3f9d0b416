/- the tolerance seat's contracts: spans. -/
import Derived.Test.YtjdakdjgkpfjkaaD2
open Go
namespace Go.Proofs.Ytjdakdjgkpfjkaa
set_option linter.unusedSimpArgs false
set_option linter.unusedVariables false
set_option maxHeartbeats 0
set_option maxRecDepth 100000
/-- A part. -/
structure PT where
  a : Int
  b : Int
  room : Int
instance : Inhabited PT := ⟨⟨0, 0, 0⟩⟩
def PT.av (x : PT) : AV := .agg [.int .i64 x.a, .int .i64 x.b, .int .i64 x.room]
@[simp] theorem low_pt (lo : Nat) (x : PT) : Low lo x.av = True := by unfold PT.av; simp
noncomputable def r12.v (n : Nat) (k : Nat) : Bool := (bif decide ((↑n : Int) ≤ 30) then decide ((↑k : Int) ≤ 30) else false)
theorem r12 (n : Nat) (g : Nat → PD) (j1 : Int) (j2 : Int) (k : Nat) (p : Nat → PD) (h : AHeap) : Ret Try.prog 12 ([rn n g j1 j2 k p]) h (AV.bool (r12.v n k)) h := by
  cases h1 : decide ((↑n : Int) ≤ 30) with
  | true =>
    have h1p := of_decide_eq_true h1
    exact Ret.of_run1 mix [(AV.bool (r12.v n k))] Try.func12 rfl [.b true, .b true, .b true, .b true, .b true] (by simp) (by simp) (kmp (by kernel_rfl) (And.intro h1 (And.intro h1 (And.intro h1 (And.intro h1 (And.intro h1 (And.intro (show (AV.bool (decide ((↑k : Int) ≤ 30))) = ((AV.bool (r12.v n k))) by first | (simp only [r12.v, h1, cond_true, cond_false]; done) | (try unfold r12.v; try simp only [h1, cond_true, cond_false]; try rfl; done) | rfl) trivial))))))) h
  | false =>
    have h1p := of_decide_eq_false h1
    exact Ret.of_run1 mix [(AV.bool (r12.v n k))] Try.func12 rfl [.b false, .b false, .b false, .b false, .b false] (by simp) (by simp) (kmp (by kernel_rfl) (And.intro h1 (And.intro h1 (And.intro h1 (And.intro h1 (And.intro h1 (And.intro (show (AV.bool false) = ((AV.bool (r12.v n k))) by first | (simp only [r12.v, h1, cond_true, cond_false]; done) | (try unfold r12.v; try simp only [h1, cond_true, cond_false]; try rfl; done) | rfl) trivial))))))) h

noncomputable def r14.v3 (k : Nat) (p : Nat → PD) : List PD := r28.v k p
theorem r14 (n : Nat) (g : Nat → PD) (j1 : Int) (j2 : Int) (k : Nat) (p : Nat → PD) (hk : k ≤ 30) (h : AHeap) : Ret Try.prog 14 ([rn n g j1 j2 k p]) h (AV.agg ((AV.sl 2 n (fun (i : Nat) => AV.agg [AV.int IntKind.i64 (g i).lo, AV.int IntKind.i64 (g i).hi])) :: ((AV.int IntKind.i64 j1) :: ((AV.int IntKind.i64 j2) :: ((AV.sl 2 (List.length (r14.v3 k p)) (fun (i : Nat) => AV.agg [AV.int IntKind.i64 (rget (r28.v k p) i).lo, AV.int IntKind.i64 (rget (r28.v k p) i).hi])) :: []))))) h := by
  have o0 : k ≤ (30 : Nat) := by first | assumption | omega | (simp_all; done)
  exact Ret.of_run1 mix [(AV.agg ((AV.sl 2 n (fun (i : Nat) => AV.agg [AV.int IntKind.i64 (g i).lo, AV.int IntKind.i64 (g i).hi])) :: ((AV.int IntKind.i64 j1) :: ((AV.int IntKind.i64 j2) :: ((AV.sl 2 (List.length (r14.v3 k p)) (fun (i : Nat) => AV.agg [AV.int IntKind.i64 (rget (r28.v k p) i).lo, AV.int IntKind.i64 (rget (r28.v k p) i).hi])) :: [])))))] Try.func14 rfl [.ret (AV.sl 2 (r28.v k p).length fun (i : Nat) => AV.agg [AV.int IntKind.i64 (rget (r28.v k p) i).lo, AV.int IntKind.i64 (rget (r28.v k p) i).hi]) ([AObj.var (AV.agg [AV.sl 2 n fun (i : Nat) => AV.agg [AV.int IntKind.i64 (g i).lo, AV.int IntKind.i64 (g i).hi], AV.int IntKind.i64 j1, AV.int IntKind.i64 j2, AV.sl 2 k fun (i : Nat) => AV.agg [AV.int IntKind.i64 (p i).lo, AV.int IntKind.i64 (p i).hi]]), AObj.var (AV.agg [AV.snil, AV.int IntKind.i64 0, AV.int IntKind.i64 0, AV.snil])])] (by simp) (by simp) (kmp (by kernel_rfl) (And.intro (r28 (k) (p) o0 ([AObj.var (AV.agg [AV.sl 2 n fun (i : Nat) => AV.agg [AV.int IntKind.i64 (g i).lo, AV.int IntKind.i64 (g i).hi], AV.int IntKind.i64 j1, AV.int IntKind.i64 j2, AV.sl 2 k fun (i : Nat) => AV.agg [AV.int IntKind.i64 (p i).lo, AV.int IntKind.i64 (p i).hi]]), AObj.var (AV.agg [AV.snil, AV.int IntKind.i64 0, AV.int IntKind.i64 0, AV.snil])])) (And.intro (And.intro trivial (show (AV.agg [AV.sl 2 n fun (i : Nat) => AV.agg [AV.int IntKind.i64 (g i).lo, AV.int IntKind.i64 (g i).hi], AV.int IntKind.i64 j1, AV.int IntKind.i64 j2, AV.sl 2 (r28.v k p).length fun (i : Nat) => AV.agg [AV.int IntKind.i64 (rget (r28.v k p) i).lo, AV.int IntKind.i64 (rget (r28.v k p) i).hi]]) = ((AV.agg ((AV.sl 2 n (fun (i : Nat) => AV.agg [AV.int IntKind.i64 (g i).lo, AV.int IntKind.i64 (g i).hi])) :: ((AV.int IntKind.i64 j1) :: ((AV.int IntKind.i64 j2) :: ((AV.sl 2 (List.length (r14.v3 k p)) (fun (i : Nat) => AV.agg [AV.int IntKind.i64 (rget (r28.v k p) i).lo, AV.int IntKind.i64 (rget (r28.v k p) i).hi])) :: [])))))) by first | (simp only [r14.v3, cond_true, cond_false]; done) | (try unfold r14.v3; try rfl; done) | rfl)) trivial))) h

inductive L15a.O where
  | e0
  | e1
noncomputable def L15a.T (n : Nat) (g : Nat → PD) (j1 : Int) (j2 : Int) (k : Nat) (p : Nat → PD) (a3 : Int) : List AV := mkT 50 [(1, AV.ptr 0 1 4 0 0), (3, AV.int IntKind.i64 a3)]
noncomputable def L15a.H (n : Nat) (g : Nat → PD) (j1 : Int) (j2 : Int) (k : Nat) (p : Nat → PD) (a3 : Int) : AHeap := [AObj.var (AV.agg [AV.sl 2 n fun (i : Nat) => AV.agg [AV.int IntKind.i64 (g i).lo, AV.int IntKind.i64 (g i).hi], AV.int IntKind.i64 j1, AV.int IntKind.i64 j2, AV.sl 2 k fun (i : Nat) => AV.agg [AV.int IntKind.i64 (p i).lo, AV.int IntKind.i64 (p i).hi]])]
def L15a.inv (n : Nat) (g : Nat → PD) (j1 : Int) (j2 : Int) (k : Nat) (p : Nat → PD) (a3 : Int) : Prop := 0 ≤ a3 ∧ (a3 ≤ (↑n : Int) ∨ a3 ≤ 0)
noncomputable def L15a.mu (n : Nat) (g : Nat → PD) (j1 : Int) (j2 : Int) (k : Nat) (p : Nat → PD) (a3 : Int) : Nat := ((↑n : Int) - a3).toNat
noncomputable def L15a.E : L15a.O → Exit
  | .e0 => Exit.ret
  | .e1 => Exit.exit 0
noncomputable def L15a.X (n : Nat) (g : Nat → PD) (j1 : Int) (j2 : Int) (k : Nat) (p : Nat → PD) : L15a.O → List AV
  | .e0 => mkT 50 [(2, (AV.int IntKind.i64 6))]
  | .e1 => mkT 50 [(1, (AV.ptr 0 1 4 0 0))]
noncomputable def L15a.XH (n : Nat) (g : Nat → PD) (j1 : Int) (j2 : Int) (k : Nat) (p : Nat → PD) : L15a.O → AHeap
  | .e0 => ([AObj.var (AV.agg [AV.sl 2 n fun (i : Nat) => AV.agg [AV.int IntKind.i64 (g i).lo, AV.int IntKind.i64 (g i).hi], AV.int IntKind.i64 j1, AV.int IntKind.i64 j2, AV.sl 2 k fun (i : Nat) => AV.agg [AV.int IntKind.i64 (p i).lo, AV.int IntKind.i64 (p i).hi]])])
  | .e1 => ([AObj.var (AV.agg [AV.sl 2 n fun (i : Nat) => AV.agg [AV.int IntKind.i64 (g i).lo, AV.int IntKind.i64 (g i).hi], AV.int IntKind.i64 j1, AV.int IntKind.i64 j2, AV.sl 2 k fun (i : Nat) => AV.agg [AV.int IntKind.i64 (p i).lo, AV.int IntKind.i64 (p i).hi]])])
noncomputable def L15a.N (n : Nat) (g : Nat → PD) : Nat → Int → L15a.O
  | 0, _ => .e0
  | k_ + 1, a3 => (bif decide (a3 < (↑n : Int)) then (bif decide ((g a3.toNat).lo < 1) then (.e0) else (bif decide ((g a3.toNat).lo > (g a3.toNat).hi) then (.e0) else (bif decide ((g a3.toNat).hi > 1000000) then (.e0) else (L15a.N n g k_ (IntKind.i64.wrap (a3 + 1)))))) else (.e1))
noncomputable def L15a.run (n : Nat) (g : Nat → PD) (a3 : Int) : L15a.O := L15a.N n g ((((↑n : Int) - a3).toNat) + 1) a3
def L15a.Next (n : Nat) (g : Nat → PD) (j1 : Int) (j2 : Int) (k : Nat) (p : Nat → PD) (k_ : Nat) (z_ : Int) (T_ : List AV) (h_ : AHeap) : Prop := LNextP (fun (z_ : Int) => L15a.T n g j1 j2 k p z_) (fun (z_ : Int) => L15a.H n g j1 j2 k p z_) (fun (z_ : Int) => L15a.inv n g j1 j2 k p z_) (fun (z_ : Int) => L15a.mu n g j1 j2 k p z_) (fun (k_ : Nat) (z_ : Int) => L15a.N n g k_ z_) k_ z_ T_ h_
def L15a.End (n : Nat) (g : Nat → PD) (j1 : Int) (j2 : Int) (k : Nat) (p : Nat → PD) (k_ : Nat) (z_ : Int) (e_ : Exit) (T_ : List AV) (h_ : AHeap) : Prop := LEndP (fun (z_ : Int) => L15a.H n g j1 j2 k p z_) (fun (k_ : Nat) (z_ : Int) => L15a.N n g k_ z_) L15a.E (L15a.X n g j1 j2 k p) (L15a.XH n g j1 j2 k p) k_ z_ e_ T_ h_
theorem L15a.nx (n : Nat) (g : Nat → PD) (j1 : Int) (j2 : Int) (k : Nat) (p : Nat → PD) {k_ : Nat} {z_ : Int} {h_ : AHeap} (s_ : Int) (h1 : L15a.inv n g j1 j2 k p s_) (h2 : L15a.mu n g j1 j2 k p s_ < L15a.mu n g j1 j2 k p z_) (h3 : L15a.N n g k_ s_ = L15a.N n g (k_ + 1) z_) (h4 : PopOk (L15a.H n g j1 j2 k p z_) h_ (L15a.T n g j1 j2 k p s_) (L15a.H n g j1 j2 k p s_)) : LNextP (fun (z_ : Int) => L15a.T n g j1 j2 k p z_) (fun (z_ : Int) => L15a.H n g j1 j2 k p z_) (fun (z_ : Int) => L15a.inv n g j1 j2 k p z_) (fun (z_ : Int) => L15a.mu n g j1 j2 k p z_) (fun (k_ : Nat) (z_ : Int) => L15a.N n g k_ z_) k_ z_ (L15a.T n g j1 j2 k p s_) h_ := LNextP.mk (Tm := (fun (z_ : Int) => L15a.T n g j1 j2 k p z_)) (Hp := (fun (z_ : Int) => L15a.H n g j1 j2 k p z_)) (inv := (fun (z_ : Int) => L15a.inv n g j1 j2 k p z_)) (mu := (fun (z_ : Int) => L15a.mu n g j1 j2 k p z_)) (l := (fun (k_ : Nat) (z_ : Int) => L15a.N n g k_ z_)) s_ h1 h2 h3 h4
theorem L15a.en (n : Nat) (g : Nat → PD) (j1 : Int) (j2 : Int) (k : Nat) (p : Nat → PD) {k_ : Nat} {z_ : Int} {h_ : AHeap} (o_ : L15a.O) (h3 : L15a.N n g (k_ + 1) z_ = o_) (h4 : PopOk (L15a.H n g j1 j2 k p z_) h_ (L15a.X n g j1 j2 k p o_) (L15a.XH n g j1 j2 k p o_)) : LEndP (fun (z_ : Int) => L15a.H n g j1 j2 k p z_) (fun (k_ : Nat) (z_ : Int) => L15a.N n g k_ z_) L15a.E (L15a.X n g j1 j2 k p) (L15a.XH n g j1 j2 k p) k_ z_ (L15a.E o_) (L15a.X n g j1 j2 k p o_) h_ := LEndP.mk (Hp := (fun (z_ : Int) => L15a.H n g j1 j2 k p z_)) (l := (fun (k_ : Nat) (z_ : Int) => L15a.N n g k_ z_)) (oE := L15a.E) (oT := L15a.X n g j1 j2 k p) (oH := L15a.XH n g j1 j2 k p) o_ h3 h4
theorem L15a.spec (n : Nat) (g : Nat → PD) (hn : n ≤ 9223372036854775807) (j1 : Int) (j2 : Int) (k : Nat) (p : Nat → PD) (hk : k ≤ 9223372036854775807) (k0_1 : decide ((↑n : Int) > 512) = false) (p0_1 : ¬(↑n : Int) > 512) (k0_2 : ((↑n : Int) == 0) = false) (p0_2 : (↑n : Int) ≠ 0) (k_ : Nat) (z_ : Int) (hi_ : L15a.inv n g j1 j2 k p z_) (hm_ : L15a.mu n g j1 j2 k p z_ < k_) : LoopTo Try.prog (loopN Try.f15 0) (L15a.T n g j1 j2 k p z_) (L15a.H n g j1 j2 k p z_) (L15a.E (L15a.N n g k_ z_)) (L15a.X n g j1 j2 k p (L15a.N n g k_ z_)) (L15a.XH n g j1 j2 k p (L15a.N n g k_ z_)) := by
  refine LoopTo.fuelP mix (fun (z_ : Int) => L15a.T n g j1 j2 k p z_) (fun (z_ : Int) => L15a.H n g j1 j2 k p z_) (fun (z_ : Int) => L15a.inv n g j1 j2 k p z_) (fun (z_ : Int) => L15a.mu n g j1 j2 k p z_) (fun (k_ : Nat) (z_ : Int) => L15a.N n g k_ z_) L15a.E (L15a.X n g j1 j2 k p) (L15a.XH n g j1 j2 k p) (others 50 [1, 3]) (others 50 [2]) (others 50 [1]) ?_ k_ z_ hi_ hm_
  clear hm_ hi_ z_ k_
  intro k_ z_ hinv hmu
  revert hinv hmu; revert z_; intro a3 hinv hmu
  have hinv : 0 ≤ a3 ∧ (a3 ≤ (↑n : Int) ∨ a3 ≤ 0) := hinv
  have hmu : (((↑n : Int) - a3).toNat) < k_ + 1 := hmu
  cases h1 : decide (a3 < (↑n : Int)) with
  | true =>
    have h1p := of_decide_eq_true h1
    have o0 : (0 : Int) ≤ a3 := by first | assumption | omega | (simp_all; done)
    have o1 : a3 < (↑n : Int) := by first | assumption | omega | (simp_all; done)
    cases h2 : decide ((g a3.toNat).lo < 1) with
    | true =>
      have h2p := of_decide_eq_true h2
      exact ⟨[.b true, .b true, .b true, .b true, .b true, .b true, .b true, .b true, .b true, .b true, .b true, .b true], kmp (by kernel_rfl) (And.intro h1 (And.intro (And.intro o0 o1) (And.intro h2 (And.intro h2 (And.intro h2 (And.intro h2 (And.intro h2 (And.intro h2 (And.intro (rfl : true = true) (And.intro (rfl : true = true) (And.intro (rfl : true = true) (And.intro (rfl : true = true) (And.intro (rfl : true = true) (L15a.en n g j1 j2 k p (k_ := k_) (z_ := a3) (h_ := [AObj.var (AV.agg [AV.sl 2 n fun (i : Nat) => AV.agg [AV.int IntKind.i64 (g i).lo, AV.int IntKind.i64 (g i).hi], AV.int IntKind.i64 j1, AV.int IntKind.i64 j2, AV.sl 2 k fun (i : Nat) => AV.agg [AV.int IntKind.i64 (p i).lo, AV.int IntKind.i64 (p i).hi]]), AObj.var (AV.agg [AV.int IntKind.i64 (g a3.toNat).lo, AV.int IntKind.i64 (g a3.toNat).hi])]) (.e0 : L15a.O) (by first | (simp only [L15a.N, h1, h2, cond_true, cond_false]; done) | (try unfold L15a.N; try simp only [h1, cond_true, cond_false]; try simp only [h2, cond_true, cond_false]; try rfl; done)) (PopOk.pop rfl (by simp [L15a.T, L15a.X, L15a.H, L15a.XH]))))))))))))))))⟩
    | false =>
      have h2p := of_decide_eq_false h2
      cases h3 : decide ((g a3.toNat).lo > (g a3.toNat).hi) with
      | true =>
        have h3p := of_decide_eq_true h3
        exact ⟨[.b true, .b false, .b false, .b false, .b false, .b false, .b false, .b true, .b true, .b true, .b true, .b true], kmp (by kernel_rfl) (And.intro h1 (And.intro (And.intro o0 o1) (And.intro h2 (And.intro h2 (And.intro h2 (And.intro h2 (And.intro h2 (And.intro h2 (And.intro h3 (And.intro h3 (And.intro h3 (And.intro h3 (And.intro (rfl : true = true) (L15a.en n g j1 j2 k p (k_ := k_) (z_ := a3) (h_ := [AObj.var (AV.agg [AV.sl 2 n fun (i : Nat) => AV.agg [AV.int IntKind.i64 (g i).lo, AV.int IntKind.i64 (g i).hi], AV.int IntKind.i64 j1, AV.int IntKind.i64 j2, AV.sl 2 k fun (i : Nat) => AV.agg [AV.int IntKind.i64 (p i).lo, AV.int IntKind.i64 (p i).hi]]), AObj.var (AV.agg [AV.int IntKind.i64 (g a3.toNat).lo, AV.int IntKind.i64 (g a3.toNat).hi])]) (.e0 : L15a.O) (by first | (simp only [L15a.N, h1, h2, h3, cond_true, cond_false]; done) | (try unfold L15a.N; try simp only [h1, cond_true, cond_false]; try simp only [h2, cond_true, cond_false]; try simp only [h3, cond_true, cond_false]; try rfl; done)) (PopOk.pop rfl (by simp [L15a.T, L15a.X, L15a.H, L15a.XH]))))))))))))))))⟩
      | false =>
        have h3p := of_decide_eq_false h3
        cases h4 : decide ((g a3.toNat).hi > 1000000) with
        | true =>
          have h4p := of_decide_eq_true h4
          exact ⟨[.b true, .b false, .b false, .b false, .b false, .b false, .b false, .b false, .b false, .b false, .b false, .b true], kmp (by kernel_rfl) (And.intro h1 (And.intro (And.intro o0 o1) (And.intro h2 (And.intro h2 (And.intro h2 (And.intro h2 (And.intro h2 (And.intro h2 (And.intro h3 (And.intro h3 (And.intro h3 (And.intro h3 (And.intro h4 (L15a.en n g j1 j2 k p (k_ := k_) (z_ := a3) (h_ := [AObj.var (AV.agg [AV.sl 2 n fun (i : Nat) => AV.agg [AV.int IntKind.i64 (g i).lo, AV.int IntKind.i64 (g i).hi], AV.int IntKind.i64 j1, AV.int IntKind.i64 j2, AV.sl 2 k fun (i : Nat) => AV.agg [AV.int IntKind.i64 (p i).lo, AV.int IntKind.i64 (p i).hi]]), AObj.var (AV.agg [AV.int IntKind.i64 (g a3.toNat).lo, AV.int IntKind.i64 (g a3.toNat).hi])]) (.e0 : L15a.O) (by first | (simp only [L15a.N, h1, h2, h3, h4, cond_true, cond_false]; done) | (try unfold L15a.N; try simp only [h1, cond_true, cond_false]; try simp only [h2, cond_true, cond_false]; try simp only [h3, cond_true, cond_false]; try simp only [h4, cond_true, cond_false]; try rfl; done)) (PopOk.pop rfl (by simp [L15a.T, L15a.X, L15a.H, L15a.XH]))))))))))))))))⟩
        | false =>
          have h4p := of_decide_eq_false h4
          try have := IntWalk.i64_in (a3 + 1) (by omega)
          have o2 : (0 : Int) ≤ IntKind.i64.wrap (a3 + (1 : Int)) := by first | assumption | omega | (simp_all; done)
          have o3 : IntKind.i64.wrap (a3 + (1 : Int)) ≤ (↑n : Int) ∨ IntKind.i64.wrap (a3 + (1 : Int)) ≤ (0 : Int) := by first | assumption | omega | (simp_all; done)
          have o4 : ((↑n : Int) - IntKind.i64.wrap (a3 + (1 : Int))).toNat < ((↑n : Int) - a3).toNat := by first | assumption | omega | (simp_all; done)
          exact ⟨[.b true, .b false, .b false, .b false, .b false, .b false, .b false, .b false, .b false, .b false, .b false, .b false], kmp (by kernel_rfl) (And.intro h1 (And.intro (And.intro o0 o1) (And.intro h2 (And.intro h2 (And.intro h2 (And.intro h2 (And.intro h2 (And.intro h2 (And.intro h3 (And.intro h3 (And.intro h3 (And.intro h3 (And.intro h4 (L15a.nx n g j1 j2 k p (k_ := k_) (z_ := a3) (h_ := [AObj.var (AV.agg [AV.sl 2 n fun (i : Nat) => AV.agg [AV.int IntKind.i64 (g i).lo, AV.int IntKind.i64 (g i).hi], AV.int IntKind.i64 j1, AV.int IntKind.i64 j2, AV.sl 2 k fun (i : Nat) => AV.agg [AV.int IntKind.i64 (p i).lo, AV.int IntKind.i64 (p i).hi]]), AObj.var (AV.agg [AV.int IntKind.i64 (g a3.toNat).lo, AV.int IntKind.i64 (g a3.toNat).hi])]) (IntKind.i64.wrap (a3 + 1)) (And.intro o2 o3) o4 (by first | (simp only [L15a.N, h1, h2, h3, h4, cond_true, cond_false]; done) | (try unfold L15a.N; try simp only [h1, cond_true, cond_false]; try simp only [h2, cond_true, cond_false]; try simp only [h3, cond_true, cond_false]; try simp only [h4, cond_true, cond_false]; try rfl; done)) (PopOk.pop rfl (by simp [L15a.T, L15a.X, L15a.H, L15a.XH]))))))))))))))))⟩
  | false =>
    have h1p := of_decide_eq_false h1
    exact ⟨[.b false], kmp (by kernel_rfl) (And.intro h1 (L15a.en n g j1 j2 k p (k_ := k_) (z_ := a3) (.e1 : L15a.O) (by first | (simp only [L15a.N, h1, cond_true, cond_false]; done) | (try unfold L15a.N; try simp only [h1, cond_true, cond_false]; try rfl; done)) PopOk.same))⟩
theorem L15a.e0 (n : Nat) (g : Nat → PD) (hn : n ≤ 9223372036854775807) (j1 : Int) (j2 : Int) (k : Nat) (p : Nat → PD) (hk : k ≤ 9223372036854775807) (k0_1 : decide ((↑n : Int) > 512) = false) (p0_1 : ¬(↑n : Int) > 512) (k0_2 : ((↑n : Int) == 0) = false) (p0_2 : (↑n : Int) ≠ 0) (a3 : Int) (hinv : L15a.inv n g j1 j2 k p a3) (hN : L15a.run n g a3 = (.e0 : L15a.O)) : LoopTo Try.prog (loopN Try.f15 0) (L15a.T n g j1 j2 k p a3) (L15a.H n g j1 j2 k p a3) (Exit.ret) (L15a.X n g j1 j2 k p (.e0 : L15a.O)) (L15a.XH n g j1 j2 k p (.e0 : L15a.O)) := by
  have h_ := L15a.spec n g hn j1 j2 k p hk k0_1 p0_1 k0_2 p0_2 ((((↑n : Int) - a3).toNat) + 1) a3 hinv (Nat.lt_succ_self _)
  unfold L15a.run at hN
  simp only [hN] at h_
  exact h_
theorem L15a.e1 (n : Nat) (g : Nat → PD) (hn : n ≤ 9223372036854775807) (j1 : Int) (j2 : Int) (k : Nat) (p : Nat → PD) (hk : k ≤ 9223372036854775807) (k0_1 : decide ((↑n : Int) > 512) = false) (p0_1 : ¬(↑n : Int) > 512) (k0_2 : ((↑n : Int) == 0) = false) (p0_2 : (↑n : Int) ≠ 0) (a3 : Int) (hinv : L15a.inv n g j1 j2 k p a3) (hN : L15a.run n g a3 = (.e1 : L15a.O)) : LoopTo Try.prog (loopN Try.f15 0) (L15a.T n g j1 j2 k p a3) (L15a.H n g j1 j2 k p a3) (Exit.exit 0) (L15a.X n g j1 j2 k p (.e1 : L15a.O)) (L15a.XH n g j1 j2 k p (.e1 : L15a.O)) := by
  have h_ := L15a.spec n g hn j1 j2 k p hk k0_1 p0_1 k0_2 p0_2 ((((↑n : Int) - a3).toNat) + 1) a3 hinv (Nat.lt_succ_self _)
  unfold L15a.run at hN
  simp only [hN] at h_
  exact h_

noncomputable def r15.v (n : Nat) (g : Nat → PD) (j1 : Int) (j2 : Int) (k : Nat) (p : Nat → PD) : Int := (bif decide ((↑n : Int) > 512) then 7 else (bif (↑n : Int) == 0 then 1 else (match L15a.run n g 0 with | .e0 => 6 | .e1 => (bif r34.v j1 j2 then r35.v k p (↑n : Int) else 6) )))
noncomputable abbrev r15.h0 (n : Nat) (g : Nat → PD) (j1 : Int) (j2 : Int) (k : Nat) (p : Nat → PD) : AHeap := ([AObj.var (AV.agg [AV.sl 2 n fun (i : Nat) => AV.agg [AV.int IntKind.i64 (g i).lo, AV.int IntKind.i64 (g i).hi], AV.int IntKind.i64 j1, AV.int IntKind.i64 j2, AV.sl 2 k fun (i : Nat) => AV.agg [AV.int IntKind.i64 (p i).lo, AV.int IntKind.i64 (p i).hi]])])
theorem r15 (n : Nat) (g : Nat → PD) (hn : n ≤ 9223372036854775807) (j1 : Int) (j2 : Int) (k : Nat) (p : Nat → PD) (hk : k ≤ 9223372036854775807) (h : AHeap) : Ret Try.prog 15 ([rn n g j1 j2 k p]) h (AV.int IntKind.i64 (r15.v n g j1 j2 k p)) h := by
  cases h1 : decide ((↑n : Int) > 512) with
  | true =>
    have h1p := of_decide_eq_true h1
    exact Ret.of_run1 mix [(AV.int IntKind.i64 (r15.v n g j1 j2 k p))] Try.func15 rfl [.b true] (by simp) (by simp) (kmp (by kernel_rfl) (And.intro h1 (And.intro (show (AV.int IntKind.i64 7) = ((AV.int IntKind.i64 (r15.v n g j1 j2 k p))) by first | (simp only [r15.v, h1, cond_true, cond_false]; done) | (try unfold r15.v; try simp only [h1, cond_true, cond_false]; try rfl; done) | rfl) trivial))) h
  | false =>
    have h1p := of_decide_eq_false h1
    cases h2 : (↑n : Int) == 0 with
    | true =>
      have h2p := eq_of_beq h2
      exact Ret.of_run1 mix [(AV.int IntKind.i64 (r15.v n g j1 j2 k p))] Try.func15 rfl [.b false, .b true] (by simp) (by simp) (kmp (by kernel_rfl) (And.intro h1 (And.intro h2 (And.intro (show (AV.int IntKind.i64 1) = ((AV.int IntKind.i64 (r15.v n g j1 j2 k p))) by first | (simp only [r15.v, h1, h2, cond_true, cond_false]; done) | (try unfold r15.v; try simp only [h1, cond_true, cond_false]; try simp only [h2, cond_true, cond_false]; try rfl; done) | rfl) trivial)))) h
    | false =>
      have h2p := ne_of_beq_false h2
      have o0 : n ≤ (9223372036854775807 : Nat) := by first | assumption | omega | (simp_all; done)
      have o1 : k ≤ (9223372036854775807 : Nat) := by first | assumption | omega | (simp_all; done)
      have o2 : decide ((↑n : Int) > (512 : Int)) = false := by first | assumption | omega | (simp_all; done)
      have o3 : ¬(↑n : Int) > (512 : Int) := by first | assumption | (simp_all; done)
      have o4 : ((↑n : Int) == (0 : Int)) = false := by first | assumption | omega | (simp_all; done)
      have o5 : (↑n : Int) ≠ (0 : Int) := by first | assumption | omega | (simp_all; done)
      have o6 : (0 : Int) ≤ (↑n : Int) ∨ (0 : Int) ≤ (0 : Int) := by first | assumption | omega | (simp_all; done)
      cases h3 : L15a.run n g 0 with
      | e0 =>
        exact Ret.of_run1 mix [(AV.int IntKind.i64 (r15.v n g j1 j2 k p))] Try.func15 rfl [.b false, .b false, .loop (others 50 [1, 3]) (Exit.ret) (L15a.X n g j1 j2 k p L15a.O.e0) (L15a.XH n g j1 j2 k p L15a.O.e0)] (by simp) (by simp) (kmp (by kernel_rfl) (And.intro h1 (And.intro h2 (And.intro (L15a.e0 (n) (g) o0 (j1) (j2) (k) (p) o1 o2 o3 o4 o5 (0) (And.intro (show (0 : Int) ≤ (0 : Int) by first | decide | exact Int.NonNeg.mk _) o6) h3) (And.intro (show (AV.int IntKind.i64 6) = ((AV.int IntKind.i64 (r15.v n g j1 j2 k p))) by first | (simp only [r15.v, h1, h2, h3, cond_true, cond_false]; done) | (try unfold r15.v; try simp only [h1, cond_true, cond_false]; try simp only [h2, cond_true, cond_false]; try simp only [h3, cond_true, cond_false]; try rfl; done) | rfl) trivial))))) h
      | e1 =>
        cases h4 : r34.v j1 j2 with
        | true =>
          exact Ret.of_run1 mix [(AV.int IntKind.i64 (r15.v n g j1 j2 k p))] Try.func15 rfl [.b false, .b false, .loop (others 50 [1, 3]) (Exit.exit 0) (L15a.X n g j1 j2 k p L15a.O.e1) (L15a.XH n g j1 j2 k p L15a.O.e1), .ret (AV.bool (r34.v j1 j2)) (r15.h0 n g j1 j2 k p), .b false, .ret (AV.int IntKind.i64 (r35.v k p (↑n : Int))) (r15.h0 n g j1 j2 k p)] (by simp) (by simp) (kmp (by kernel_rfl) (And.intro h1 (And.intro h2 (And.intro (L15a.e1 (n) (g) o0 (j1) (j2) (k) (p) o1 o2 o3 o4 o5 (0) (And.intro (show (0 : Int) ≤ (0 : Int) by first | decide | exact Int.NonNeg.mk _) o6) h3) (And.intro (r34 (j1) (j2) (r15.h0 n g j1 j2 k p)) (And.intro (show (bnot (r34.v j1 j2)) = false by rw [h4]; try rfl) (And.intro (r35 (k) (p) o1 ((↑n : Int)) (r15.h0 n g j1 j2 k p)) (And.intro (show (AV.int IntKind.i64 (r35.v k p (↑n : Int))) = ((AV.int IntKind.i64 (r15.v n g j1 j2 k p))) by first | (simp only [r15.v, h1, h2, h4, h3, cond_true, cond_false]; done) | (try unfold r15.v; try simp only [h1, cond_true, cond_false]; try simp only [h2, cond_true, cond_false]; try simp only [h4, cond_true, cond_false]; try simp only [h3, cond_true, cond_false]; try rfl; done) | rfl) trivial)))))))) h
        | false =>
          exact Ret.of_run1 mix [(AV.int IntKind.i64 (r15.v n g j1 j2 k p))] Try.func15 rfl [.b false, .b false, .loop (others 50 [1, 3]) (Exit.exit 0) (L15a.X n g j1 j2 k p L15a.O.e1) (L15a.XH n g j1 j2 k p L15a.O.e1), .ret (AV.bool (r34.v j1 j2)) (r15.h0 n g j1 j2 k p), .b true] (by simp) (by simp) (kmp (by kernel_rfl) (And.intro h1 (And.intro h2 (And.intro (L15a.e1 (n) (g) o0 (j1) (j2) (k) (p) o1 o2 o3 o4 o5 (0) (And.intro (show (0 : Int) ≤ (0 : Int) by first | decide | exact Int.NonNeg.mk _) o6) h3) (And.intro (r34 (j1) (j2) (r15.h0 n g j1 j2 k p)) (And.intro (show (bnot (r34.v j1 j2)) = true by rw [h4]; try rfl) (And.intro (show (AV.int IntKind.i64 6) = ((AV.int IntKind.i64 (r15.v n g j1 j2 k p))) by first | (simp only [r15.v, h1, h2, h4, h3, cond_true, cond_false]; done) | (try unfold r15.v; try simp only [h1, cond_true, cond_false]; try simp only [h2, cond_true, cond_false]; try simp only [h4, cond_true, cond_false]; try simp only [h3, cond_true, cond_false]; try rfl; done) | rfl) trivial))))))) h

inductive L33a.O where
  | e0 (a0 : Int) (a1 : Int)
noncomputable def L33a.T (n : Nat) (g : Nat → PD) (u : Int) (w : Int) (a29 : Int) (ao2_0 : Int) (ao2_1 : Int) : List AV := mkT 38 [(6, AV.ptr 1 1 3 0 0), (7, AV.ptr 2 1 3 0 0), (27, AV.sl 2 (w.toNat - u.toNat) fun (i : Nat) => AV.agg [AV.int IntKind.i64 (g (u.toNat + i)).lo, AV.int IntKind.i64 (g (u.toNat + i)).hi]), (28, AV.int IntKind.i64 (↑(w.toNat - u.toNat) : Int)), (29, AV.int IntKind.i64 a29)]
noncomputable def L33a.H (n : Nat) (g : Nat → PD) (u : Int) (w : Int) (a29 : Int) (ao2_0 : Int) (ao2_1 : Int) : AHeap := [AObj.dead, AObj.var (AV.agg [AV.int IntKind.i64 0, AV.int IntKind.i64 0, AV.int IntKind.i64 0]), AObj.var (AV.agg [AV.int IntKind.i64 ao2_0, AV.int IntKind.i64 ao2_1, AV.int IntKind.i64 (IntKind.i64.wrap (IntKind.i64.wrap (w - u) - 1))])]
def L33a.inv (n : Nat) (g : Nat → PD) (u : Int) (w : Int) (a29 : Int) (ao2_0 : Int) (ao2_1 : Int) : Prop := 0 ≤ a29 ∧ (a29 ≤ (↑(w.toNat - u.toNat) : Int) ∨ a29 ≤ 0)
noncomputable def L33a.mu (n : Nat) (g : Nat → PD) (u : Int) (w : Int) (a29 : Int) (ao2_0 : Int) (ao2_1 : Int) : Nat := ((↑(w.toNat - u.toNat) : Int) - a29).toNat
noncomputable def L33a.E : L33a.O → Exit
  | .e0 a0 a1 => Exit.exit 0
noncomputable def L33a.X (n : Nat) (g : Nat → PD) (u : Int) (w : Int) : L33a.O → List AV
  | .e0 a0 a1 => mkT 38 [(6, (AV.ptr 1 1 3 0 0)), (7, (AV.ptr 2 1 3 0 0))]
noncomputable def L33a.XH (n : Nat) (g : Nat → PD) (u : Int) (w : Int) : L33a.O → AHeap
  | .e0 a0 a1 => ((AObj.dead) :: ((AObj.var (AV.agg [AV.int IntKind.i64 0, AV.int IntKind.i64 0, AV.int IntKind.i64 0])) :: ((AObj.var (AV.agg ((AV.int IntKind.i64 a0) :: ((AV.int IntKind.i64 a1) :: ([AV.int IntKind.i64 (IntKind.i64.wrap (IntKind.i64.wrap (w - u) - 1))]))))) :: ([]))))
noncomputable def L33a.N (g : Nat → PD) (u : Int) (w : Int) : Nat → Int → Int → Int → L33a.O
  | 0, _, _, _ => .e0 default default
  | k_ + 1, a29, ao2_0, ao2_1 => (bif decide (a29 < (↑(w.toNat - u.toNat) : Int)) then (L33a.N g u w k_ (IntKind.i64.wrap (a29 + 1)) (r58.v0 ao2_0 (g (u.toNat + a29.toNat)).lo) (r58.v1 ao2_1 (g (u.toNat + a29.toNat)).hi)) else (.e0 (ao2_0) (ao2_1)))
noncomputable def L33a.run (g : Nat → PD) (u : Int) (w : Int) (a29 : Int) (ao2_0 : Int) (ao2_1 : Int) : L33a.O := L33a.N g u w ((((↑(w.toNat - u.toNat) : Int) - a29).toNat) + 1) a29 ao2_0 ao2_1
def L33a.Next (n : Nat) (g : Nat → PD) (u : Int) (w : Int) (k_ : Nat) (z_ : Int × Int × Int) (T_ : List AV) (h_ : AHeap) : Prop := LNextP (fun (z_ : Int × Int × Int) => L33a.T n g u w z_.1 z_.2.1 z_.2.2) (fun (z_ : Int × Int × Int) => L33a.H n g u w z_.1 z_.2.1 z_.2.2) (fun (z_ : Int × Int × Int) => L33a.inv n g u w z_.1 z_.2.1 z_.2.2) (fun (z_ : Int × Int × Int) => L33a.mu n g u w z_.1 z_.2.1 z_.2.2) (fun (k_ : Nat) (z_ : Int × Int × Int) => L33a.N g u w k_ z_.1 z_.2.1 z_.2.2) k_ z_ T_ h_
def L33a.End (n : Nat) (g : Nat → PD) (u : Int) (w : Int) (k_ : Nat) (z_ : Int × Int × Int) (e_ : Exit) (T_ : List AV) (h_ : AHeap) : Prop := LEndP (fun (z_ : Int × Int × Int) => L33a.H n g u w z_.1 z_.2.1 z_.2.2) (fun (k_ : Nat) (z_ : Int × Int × Int) => L33a.N g u w k_ z_.1 z_.2.1 z_.2.2) L33a.E (L33a.X n g u w) (L33a.XH n g u w) k_ z_ e_ T_ h_
theorem L33a.nx (n : Nat) (g : Nat → PD) (u : Int) (w : Int) {k_ : Nat} {z_ : Int × Int × Int} {h_ : AHeap} (s_ : Int × Int × Int) (h1 : L33a.inv n g u w s_.1 s_.2.1 s_.2.2) (h2 : L33a.mu n g u w s_.1 s_.2.1 s_.2.2 < L33a.mu n g u w z_.1 z_.2.1 z_.2.2) (h3 : L33a.N g u w k_ s_.1 s_.2.1 s_.2.2 = L33a.N g u w (k_ + 1) z_.1 z_.2.1 z_.2.2) (h4 : PopOk (L33a.H n g u w z_.1 z_.2.1 z_.2.2) h_ (L33a.T n g u w s_.1 s_.2.1 s_.2.2) (L33a.H n g u w s_.1 s_.2.1 s_.2.2)) : LNextP (fun (z_ : Int × Int × Int) => L33a.T n g u w z_.1 z_.2.1 z_.2.2) (fun (z_ : Int × Int × Int) => L33a.H n g u w z_.1 z_.2.1 z_.2.2) (fun (z_ : Int × Int × Int) => L33a.inv n g u w z_.1 z_.2.1 z_.2.2) (fun (z_ : Int × Int × Int) => L33a.mu n g u w z_.1 z_.2.1 z_.2.2) (fun (k_ : Nat) (z_ : Int × Int × Int) => L33a.N g u w k_ z_.1 z_.2.1 z_.2.2) k_ z_ (L33a.T n g u w s_.1 s_.2.1 s_.2.2) h_ := LNextP.mk (Tm := (fun (z_ : Int × Int × Int) => L33a.T n g u w z_.1 z_.2.1 z_.2.2)) (Hp := (fun (z_ : Int × Int × Int) => L33a.H n g u w z_.1 z_.2.1 z_.2.2)) (inv := (fun (z_ : Int × Int × Int) => L33a.inv n g u w z_.1 z_.2.1 z_.2.2)) (mu := (fun (z_ : Int × Int × Int) => L33a.mu n g u w z_.1 z_.2.1 z_.2.2)) (l := (fun (k_ : Nat) (z_ : Int × Int × Int) => L33a.N g u w k_ z_.1 z_.2.1 z_.2.2)) s_ h1 h2 h3 h4
theorem L33a.en (n : Nat) (g : Nat → PD) (u : Int) (w : Int) {k_ : Nat} {z_ : Int × Int × Int} {h_ : AHeap} (o_ : L33a.O) (h3 : L33a.N g u w (k_ + 1) z_.1 z_.2.1 z_.2.2 = o_) (h4 : PopOk (L33a.H n g u w z_.1 z_.2.1 z_.2.2) h_ (L33a.X n g u w o_) (L33a.XH n g u w o_)) : LEndP (fun (z_ : Int × Int × Int) => L33a.H n g u w z_.1 z_.2.1 z_.2.2) (fun (k_ : Nat) (z_ : Int × Int × Int) => L33a.N g u w k_ z_.1 z_.2.1 z_.2.2) L33a.E (L33a.X n g u w) (L33a.XH n g u w) k_ z_ (L33a.E o_) (L33a.X n g u w o_) h_ := LEndP.mk (Hp := (fun (z_ : Int × Int × Int) => L33a.H n g u w z_.1 z_.2.1 z_.2.2)) (l := (fun (k_ : Nat) (z_ : Int × Int × Int) => L33a.N g u w k_ z_.1 z_.2.1 z_.2.2)) (oE := L33a.E) (oT := L33a.X n g u w) (oH := L33a.XH n g u w) o_ h3 h4
theorem L33a.spec (n : Nat) (g : Nat → PD) (hn : n ≤ 9223372036854775807) (u : Int) (w : Int) (h0 : 0 ≤ u) (h1 : u ≤ w) (h2 : w ≤ (↑n : Int)) (h3 : w ≤ 9223372036854775807) (k_ : Nat) (z_ : Int × Int × Int) (hi_ : L33a.inv n g u w z_.1 z_.2.1 z_.2.2) (hm_ : L33a.mu n g u w z_.1 z_.2.1 z_.2.2 < k_) : LoopTo Try.prog (loopN Try.f33 0) (L33a.T n g u w z_.1 z_.2.1 z_.2.2) (L33a.H n g u w z_.1 z_.2.1 z_.2.2) (L33a.E (L33a.N g u w k_ z_.1 z_.2.1 z_.2.2)) (L33a.X n g u w (L33a.N g u w k_ z_.1 z_.2.1 z_.2.2)) (L33a.XH n g u w (L33a.N g u w k_ z_.1 z_.2.1 z_.2.2)) := by
  refine LoopTo.fuelP mix (fun (z_ : Int × Int × Int) => L33a.T n g u w z_.1 z_.2.1 z_.2.2) (fun (z_ : Int × Int × Int) => L33a.H n g u w z_.1 z_.2.1 z_.2.2) (fun (z_ : Int × Int × Int) => L33a.inv n g u w z_.1 z_.2.1 z_.2.2) (fun (z_ : Int × Int × Int) => L33a.mu n g u w z_.1 z_.2.1 z_.2.2) (fun (k_ : Nat) (z_ : Int × Int × Int) => L33a.N g u w k_ z_.1 z_.2.1 z_.2.2) L33a.E (L33a.X n g u w) (L33a.XH n g u w) (others 38 [6, 7, 27, 28, 29]) (others 38 [6]) (others 38 [6, 7]) ?_ k_ z_ hi_ hm_
  clear hm_ hi_ z_ k_
  intro k_ z_ hinv hmu
  obtain ⟨a29, ao2_0, ao2_1⟩ := z_
  have hinv : 0 ≤ a29 ∧ (a29 ≤ (↑(w.toNat - u.toNat) : Int) ∨ a29 ≤ 0) := hinv
  have hmu : (((↑(w.toNat - u.toNat) : Int) - a29).toNat) < k_ + 1 := hmu
  cases h1 : decide (a29 < (↑(w.toNat - u.toNat) : Int)) with
  | true =>
    have h1p := of_decide_eq_true h1
    have o0 : (0 : Int) ≤ a29 := by first | assumption | omega | (simp_all; done)
    have o1 : a29 < (↑(w.toNat - u.toNat) : Int) := by first | assumption | omega | (simp_all; done)
    try have := IntWalk.i64_in (a29 + 1) (by omega)
    have o2 : (0 : Int) ≤ IntKind.i64.wrap (a29 + (1 : Int)) := by first | assumption | omega | (simp_all; done)
    have o3 : IntKind.i64.wrap (a29 + (1 : Int)) ≤ (↑(w.toNat - u.toNat) : Int) ∨ IntKind.i64.wrap (a29 + (1 : Int)) ≤ (0 : Int) := by first | assumption | omega | (simp_all; done)
    have o4 : ((↑(w.toNat - u.toNat) : Int) - IntKind.i64.wrap (a29 + (1 : Int))).toNat < ((↑(w.toNat - u.toNat) : Int) - a29).toNat := by first | assumption | omega | (simp_all; done)
    exact ⟨[.b true, .ret (AV.agg [AV.int IntKind.i64 (r58.v0 ao2_0 (g (u.toNat + a29.toNat)).lo), AV.int IntKind.i64 (r58.v1 ao2_1 (g (u.toNat + a29.toNat)).hi), AV.int IntKind.i64 (IntKind.i64.wrap (IntKind.i64.wrap (w - u) - 1))]) ([AObj.dead, AObj.var (AV.agg [AV.int IntKind.i64 0, AV.int IntKind.i64 0, AV.int IntKind.i64 0]), AObj.var (AV.agg [AV.int IntKind.i64 ao2_0, AV.int IntKind.i64 ao2_1, AV.int IntKind.i64 (IntKind.i64.wrap (IntKind.i64.wrap (w - u) - 1))]), AObj.var (AV.agg [AV.int IntKind.i64 (g (u.toNat + a29.toNat)).lo, AV.int IntKind.i64 (g (u.toNat + a29.toNat)).hi])])], kmp (by kernel_rfl) (And.intro h1 (And.intro (And.intro o0 o1) (And.intro (r58 (ao2_0) (ao2_1) (IntKind.i64.wrap (IntKind.i64.wrap (w - u) - 1)) ((g (u.toNat + a29.toNat)).lo) ((g (u.toNat + a29.toNat)).hi) ([AObj.dead, AObj.var (AV.agg [AV.int IntKind.i64 0, AV.int IntKind.i64 0, AV.int IntKind.i64 0]), AObj.var (AV.agg [AV.int IntKind.i64 ao2_0, AV.int IntKind.i64 ao2_1, AV.int IntKind.i64 (IntKind.i64.wrap (IntKind.i64.wrap (w - u) - 1))]), AObj.var (AV.agg [AV.int IntKind.i64 (g (u.toNat + a29.toNat)).lo, AV.int IntKind.i64 (g (u.toNat + a29.toNat)).hi])])) (L33a.nx n g u w (k_ := k_) (z_ := (a29, ao2_0, ao2_1)) (h_ := [AObj.dead, AObj.var (AV.agg [AV.int IntKind.i64 0, AV.int IntKind.i64 0, AV.int IntKind.i64 0]), AObj.var (AV.agg [AV.int IntKind.i64 (r58.v0 ao2_0 (g (u.toNat + a29.toNat)).lo), AV.int IntKind.i64 (r58.v1 ao2_1 (g (u.toNat + a29.toNat)).hi), AV.int IntKind.i64 (IntKind.i64.wrap (IntKind.i64.wrap (w - u) - 1))]), AObj.var (AV.agg [AV.int IntKind.i64 (g (u.toNat + a29.toNat)).lo, AV.int IntKind.i64 (g (u.toNat + a29.toNat)).hi])]) ((IntKind.i64.wrap (a29 + 1), r58.v0 ao2_0 (g (u.toNat + a29.toNat)).lo, r58.v1 ao2_1 (g (u.toNat + a29.toNat)).hi)) (And.intro o2 o3) o4 (by first | (simp only [L33a.N, h1, cond_true, cond_false]; done) | (try unfold L33a.N; try simp only [h1, cond_true, cond_false]; try rfl; done)) (PopOk.popLow _ rfl rfl (by simp [L33a.T, L33a.X, L33a.H, L33a.XH]) (by simp [L33a.T, L33a.X, L33a.H, L33a.XH]))))))⟩
  | false =>
    have h1p := of_decide_eq_false h1
    exact ⟨[.b false], kmp (by kernel_rfl) (And.intro h1 (L33a.en n g u w (k_ := k_) (z_ := (a29, ao2_0, ao2_1)) (.e0 (ao2_0) (ao2_1) : L33a.O) (by first | (simp only [L33a.N, h1, cond_true, cond_false]; done) | (try unfold L33a.N; try simp only [h1, cond_true, cond_false]; try rfl; done)) PopOk.same))⟩
theorem L33a.e0 (n : Nat) (g : Nat → PD) (hn : n ≤ 9223372036854775807) (u : Int) (w : Int) (h0 : 0 ≤ u) (h1 : u ≤ w) (h2 : w ≤ (↑n : Int)) (h3 : w ≤ 9223372036854775807) (a29 : Int) (ao2_0 : Int) (ao2_1 : Int) (hinv : L33a.inv n g u w a29 ao2_0 ao2_1) (a0 : Int) (a1 : Int) (hN : L33a.run g u w a29 ao2_0 ao2_1 = (.e0 a0 a1 : L33a.O)) : LoopTo Try.prog (loopN Try.f33 0) (L33a.T n g u w a29 ao2_0 ao2_1) (L33a.H n g u w a29 ao2_0 ao2_1) (Exit.exit 0) (L33a.X n g u w (.e0 a0 a1 : L33a.O)) (L33a.XH n g u w (.e0 a0 a1 : L33a.O)) := by
  have h_ := L33a.spec n g hn u w h0 h1 h2 h3 ((((↑(w.toNat - u.toNat) : Int) - a29).toNat) + 1) (a29, ao2_0, ao2_1) hinv (Nat.lt_succ_self _)
  unfold L33a.run at hN
  simp only [hN] at h_
  exact h_

inductive L33ax.O where
  | e0 (a0 : Int) (a1 : Int)
noncomputable def L33ax.T (n : Nat) (g : Nat → PD) (u : Int) (w : Int) (a29 : Int) (ao2_0 : Int) (ao2_1 : Int) : List AV := mkT 38 [(6, AV.ptr 1 1 3 0 0), (7, AV.ptr 2 1 3 0 0), (27, AV.sl 2 (w.toNat - u.toNat) fun (i : Nat) => AV.agg [AV.int IntKind.i64 (g (u.toNat + i)).lo, AV.int IntKind.i64 (g (u.toNat + i)).hi]), (28, AV.int IntKind.i64 (↑(w.toNat - u.toNat) : Int)), (29, AV.int IntKind.i64 a29)]
noncomputable def L33ax.H (n : Nat) (g : Nat → PD) (u : Int) (w : Int) (a29 : Int) (ao2_0 : Int) (ao2_1 : Int) : AHeap := [AObj.dead, AObj.var (AV.agg [AV.int IntKind.i64 0, AV.int IntKind.i64 0, AV.int IntKind.i64 0]), AObj.var (AV.agg [AV.int IntKind.i64 ao2_0, AV.int IntKind.i64 ao2_1, AV.int IntKind.i64 (IntKind.i64.wrap (w - u))])]
def L33ax.inv (n : Nat) (g : Nat → PD) (u : Int) (w : Int) (a29 : Int) (ao2_0 : Int) (ao2_1 : Int) : Prop := 0 ≤ a29 ∧ (a29 ≤ (↑(w.toNat - u.toNat) : Int) ∨ a29 ≤ 0)
noncomputable def L33ax.mu (n : Nat) (g : Nat → PD) (u : Int) (w : Int) (a29 : Int) (ao2_0 : Int) (ao2_1 : Int) : Nat := ((↑(w.toNat - u.toNat) : Int) - a29).toNat
noncomputable def L33ax.E : L33ax.O → Exit
  | .e0 a0 a1 => Exit.exit 0
noncomputable def L33ax.X (n : Nat) (g : Nat → PD) (u : Int) (w : Int) : L33ax.O → List AV
  | .e0 a0 a1 => mkT 38 [(6, (AV.ptr 1 1 3 0 0)), (7, (AV.ptr 2 1 3 0 0))]
noncomputable def L33ax.XH (n : Nat) (g : Nat → PD) (u : Int) (w : Int) : L33ax.O → AHeap
  | .e0 a0 a1 => ((AObj.dead) :: ((AObj.var (AV.agg [AV.int IntKind.i64 0, AV.int IntKind.i64 0, AV.int IntKind.i64 0])) :: ((AObj.var (AV.agg ((AV.int IntKind.i64 a0) :: ((AV.int IntKind.i64 a1) :: ([AV.int IntKind.i64 (IntKind.i64.wrap (w - u))]))))) :: ([]))))
noncomputable def L33ax.N (g : Nat → PD) (u : Int) (w : Int) : Nat → Int → Int → Int → L33ax.O
  | 0, _, _, _ => .e0 default default
  | k_ + 1, a29, ao2_0, ao2_1 => (bif decide (a29 < (↑(w.toNat - u.toNat) : Int)) then (L33ax.N g u w k_ (IntKind.i64.wrap (a29 + 1)) (r58.v0 ao2_0 (g (u.toNat + a29.toNat)).lo) (r58.v1 ao2_1 (g (u.toNat + a29.toNat)).hi)) else (.e0 (ao2_0) (ao2_1)))
noncomputable def L33ax.run (g : Nat → PD) (u : Int) (w : Int) (a29 : Int) (ao2_0 : Int) (ao2_1 : Int) : L33ax.O := L33ax.N g u w ((((↑(w.toNat - u.toNat) : Int) - a29).toNat) + 1) a29 ao2_0 ao2_1
def L33ax.Next (n : Nat) (g : Nat → PD) (u : Int) (w : Int) (k_ : Nat) (z_ : Int × Int × Int) (T_ : List AV) (h_ : AHeap) : Prop := LNextP (fun (z_ : Int × Int × Int) => L33ax.T n g u w z_.1 z_.2.1 z_.2.2) (fun (z_ : Int × Int × Int) => L33ax.H n g u w z_.1 z_.2.1 z_.2.2) (fun (z_ : Int × Int × Int) => L33ax.inv n g u w z_.1 z_.2.1 z_.2.2) (fun (z_ : Int × Int × Int) => L33ax.mu n g u w z_.1 z_.2.1 z_.2.2) (fun (k_ : Nat) (z_ : Int × Int × Int) => L33ax.N g u w k_ z_.1 z_.2.1 z_.2.2) k_ z_ T_ h_
def L33ax.End (n : Nat) (g : Nat → PD) (u : Int) (w : Int) (k_ : Nat) (z_ : Int × Int × Int) (e_ : Exit) (T_ : List AV) (h_ : AHeap) : Prop := LEndP (fun (z_ : Int × Int × Int) => L33ax.H n g u w z_.1 z_.2.1 z_.2.2) (fun (k_ : Nat) (z_ : Int × Int × Int) => L33ax.N g u w k_ z_.1 z_.2.1 z_.2.2) L33ax.E (L33ax.X n g u w) (L33ax.XH n g u w) k_ z_ e_ T_ h_
theorem L33ax.nx (n : Nat) (g : Nat → PD) (u : Int) (w : Int) {k_ : Nat} {z_ : Int × Int × Int} {h_ : AHeap} (s_ : Int × Int × Int) (h1 : L33ax.inv n g u w s_.1 s_.2.1 s_.2.2) (h2 : L33ax.mu n g u w s_.1 s_.2.1 s_.2.2 < L33ax.mu n g u w z_.1 z_.2.1 z_.2.2) (h3 : L33ax.N g u w k_ s_.1 s_.2.1 s_.2.2 = L33ax.N g u w (k_ + 1) z_.1 z_.2.1 z_.2.2) (h4 : PopOk (L33ax.H n g u w z_.1 z_.2.1 z_.2.2) h_ (L33ax.T n g u w s_.1 s_.2.1 s_.2.2) (L33ax.H n g u w s_.1 s_.2.1 s_.2.2)) : LNextP (fun (z_ : Int × Int × Int) => L33ax.T n g u w z_.1 z_.2.1 z_.2.2) (fun (z_ : Int × Int × Int) => L33ax.H n g u w z_.1 z_.2.1 z_.2.2) (fun (z_ : Int × Int × Int) => L33ax.inv n g u w z_.1 z_.2.1 z_.2.2) (fun (z_ : Int × Int × Int) => L33ax.mu n g u w z_.1 z_.2.1 z_.2.2) (fun (k_ : Nat) (z_ : Int × Int × Int) => L33ax.N g u w k_ z_.1 z_.2.1 z_.2.2) k_ z_ (L33ax.T n g u w s_.1 s_.2.1 s_.2.2) h_ := LNextP.mk (Tm := (fun (z_ : Int × Int × Int) => L33ax.T n g u w z_.1 z_.2.1 z_.2.2)) (Hp := (fun (z_ : Int × Int × Int) => L33ax.H n g u w z_.1 z_.2.1 z_.2.2)) (inv := (fun (z_ : Int × Int × Int) => L33ax.inv n g u w z_.1 z_.2.1 z_.2.2)) (mu := (fun (z_ : Int × Int × Int) => L33ax.mu n g u w z_.1 z_.2.1 z_.2.2)) (l := (fun (k_ : Nat) (z_ : Int × Int × Int) => L33ax.N g u w k_ z_.1 z_.2.1 z_.2.2)) s_ h1 h2 h3 h4
theorem L33ax.en (n : Nat) (g : Nat → PD) (u : Int) (w : Int) {k_ : Nat} {z_ : Int × Int × Int} {h_ : AHeap} (o_ : L33ax.O) (h3 : L33ax.N g u w (k_ + 1) z_.1 z_.2.1 z_.2.2 = o_) (h4 : PopOk (L33ax.H n g u w z_.1 z_.2.1 z_.2.2) h_ (L33ax.X n g u w o_) (L33ax.XH n g u w o_)) : LEndP (fun (z_ : Int × Int × Int) => L33ax.H n g u w z_.1 z_.2.1 z_.2.2) (fun (k_ : Nat) (z_ : Int × Int × Int) => L33ax.N g u w k_ z_.1 z_.2.1 z_.2.2) L33ax.E (L33ax.X n g u w) (L33ax.XH n g u w) k_ z_ (L33ax.E o_) (L33ax.X n g u w o_) h_ := LEndP.mk (Hp := (fun (z_ : Int × Int × Int) => L33ax.H n g u w z_.1 z_.2.1 z_.2.2)) (l := (fun (k_ : Nat) (z_ : Int × Int × Int) => L33ax.N g u w k_ z_.1 z_.2.1 z_.2.2)) (oE := L33ax.E) (oT := L33ax.X n g u w) (oH := L33ax.XH n g u w) o_ h3 h4
theorem L33ax.spec (n : Nat) (g : Nat → PD) (hn : n ≤ 9223372036854775807) (u : Int) (w : Int) (h0 : 0 ≤ u) (h1 : u ≤ w) (h2 : w ≤ (↑n : Int)) (h3 : w ≤ 9223372036854775807) (k_ : Nat) (z_ : Int × Int × Int) (hi_ : L33ax.inv n g u w z_.1 z_.2.1 z_.2.2) (hm_ : L33ax.mu n g u w z_.1 z_.2.1 z_.2.2 < k_) : LoopTo Try.prog (loopN Try.f33 0) (L33ax.T n g u w z_.1 z_.2.1 z_.2.2) (L33ax.H n g u w z_.1 z_.2.1 z_.2.2) (L33ax.E (L33ax.N g u w k_ z_.1 z_.2.1 z_.2.2)) (L33ax.X n g u w (L33ax.N g u w k_ z_.1 z_.2.1 z_.2.2)) (L33ax.XH n g u w (L33ax.N g u w k_ z_.1 z_.2.1 z_.2.2)) := by
  refine LoopTo.fuelP mix (fun (z_ : Int × Int × Int) => L33ax.T n g u w z_.1 z_.2.1 z_.2.2) (fun (z_ : Int × Int × Int) => L33ax.H n g u w z_.1 z_.2.1 z_.2.2) (fun (z_ : Int × Int × Int) => L33ax.inv n g u w z_.1 z_.2.1 z_.2.2) (fun (z_ : Int × Int × Int) => L33ax.mu n g u w z_.1 z_.2.1 z_.2.2) (fun (k_ : Nat) (z_ : Int × Int × Int) => L33ax.N g u w k_ z_.1 z_.2.1 z_.2.2) L33ax.E (L33ax.X n g u w) (L33ax.XH n g u w) (others 38 [6, 7, 27, 28, 29]) (others 38 [6]) (others 38 [6, 7]) ?_ k_ z_ hi_ hm_
  clear hm_ hi_ z_ k_
  intro k_ z_ hinv hmu
  obtain ⟨a29, ao2_0, ao2_1⟩ := z_
  have hinv : 0 ≤ a29 ∧ (a29 ≤ (↑(w.toNat - u.toNat) : Int) ∨ a29 ≤ 0) := hinv
  have hmu : (((↑(w.toNat - u.toNat) : Int) - a29).toNat) < k_ + 1 := hmu
  cases h1 : decide (a29 < (↑(w.toNat - u.toNat) : Int)) with
  | true =>
    have h1p := of_decide_eq_true h1
    have o0 : (0 : Int) ≤ a29 := by first | assumption | omega | (simp_all; done)
    have o1 : a29 < (↑(w.toNat - u.toNat) : Int) := by first | assumption | omega | (simp_all; done)
    try have := IntWalk.i64_in (a29 + 1) (by omega)
    have o2 : (0 : Int) ≤ IntKind.i64.wrap (a29 + (1 : Int)) := by first | assumption | omega | (simp_all; done)
    have o3 : IntKind.i64.wrap (a29 + (1 : Int)) ≤ (↑(w.toNat - u.toNat) : Int) ∨ IntKind.i64.wrap (a29 + (1 : Int)) ≤ (0 : Int) := by first | assumption | omega | (simp_all; done)
    have o4 : ((↑(w.toNat - u.toNat) : Int) - IntKind.i64.wrap (a29 + (1 : Int))).toNat < ((↑(w.toNat - u.toNat) : Int) - a29).toNat := by first | assumption | omega | (simp_all; done)
    exact ⟨[.b true, .ret (AV.agg [AV.int IntKind.i64 (r58.v0 ao2_0 (g (u.toNat + a29.toNat)).lo), AV.int IntKind.i64 (r58.v1 ao2_1 (g (u.toNat + a29.toNat)).hi), AV.int IntKind.i64 (IntKind.i64.wrap (w - u))]) ([AObj.dead, AObj.var (AV.agg [AV.int IntKind.i64 0, AV.int IntKind.i64 0, AV.int IntKind.i64 0]), AObj.var (AV.agg [AV.int IntKind.i64 ao2_0, AV.int IntKind.i64 ao2_1, AV.int IntKind.i64 (IntKind.i64.wrap (w - u))]), AObj.var (AV.agg [AV.int IntKind.i64 (g (u.toNat + a29.toNat)).lo, AV.int IntKind.i64 (g (u.toNat + a29.toNat)).hi])])], kmp (by kernel_rfl) (And.intro h1 (And.intro (And.intro o0 o1) (And.intro (r58 (ao2_0) (ao2_1) (IntKind.i64.wrap (w - u)) ((g (u.toNat + a29.toNat)).lo) ((g (u.toNat + a29.toNat)).hi) ([AObj.dead, AObj.var (AV.agg [AV.int IntKind.i64 0, AV.int IntKind.i64 0, AV.int IntKind.i64 0]), AObj.var (AV.agg [AV.int IntKind.i64 ao2_0, AV.int IntKind.i64 ao2_1, AV.int IntKind.i64 (IntKind.i64.wrap (w - u))]), AObj.var (AV.agg [AV.int IntKind.i64 (g (u.toNat + a29.toNat)).lo, AV.int IntKind.i64 (g (u.toNat + a29.toNat)).hi])])) (L33ax.nx n g u w (k_ := k_) (z_ := (a29, ao2_0, ao2_1)) (h_ := [AObj.dead, AObj.var (AV.agg [AV.int IntKind.i64 0, AV.int IntKind.i64 0, AV.int IntKind.i64 0]), AObj.var (AV.agg [AV.int IntKind.i64 (r58.v0 ao2_0 (g (u.toNat + a29.toNat)).lo), AV.int IntKind.i64 (r58.v1 ao2_1 (g (u.toNat + a29.toNat)).hi), AV.int IntKind.i64 (IntKind.i64.wrap (w - u))]), AObj.var (AV.agg [AV.int IntKind.i64 (g (u.toNat + a29.toNat)).lo, AV.int IntKind.i64 (g (u.toNat + a29.toNat)).hi])]) ((IntKind.i64.wrap (a29 + 1), r58.v0 ao2_0 (g (u.toNat + a29.toNat)).lo, r58.v1 ao2_1 (g (u.toNat + a29.toNat)).hi)) (And.intro o2 o3) o4 (by first | (simp only [L33ax.N, h1, cond_true, cond_false]; done) | (try unfold L33ax.N; try simp only [h1, cond_true, cond_false]; try rfl; done)) (PopOk.popLow _ rfl rfl (by simp [L33ax.T, L33ax.X, L33ax.H, L33ax.XH]) (by simp [L33ax.T, L33ax.X, L33ax.H, L33ax.XH]))))))⟩
  | false =>
    have h1p := of_decide_eq_false h1
    exact ⟨[.b false], kmp (by kernel_rfl) (And.intro h1 (L33ax.en n g u w (k_ := k_) (z_ := (a29, ao2_0, ao2_1)) (.e0 (ao2_0) (ao2_1) : L33ax.O) (by first | (simp only [L33ax.N, h1, cond_true, cond_false]; done) | (try unfold L33ax.N; try simp only [h1, cond_true, cond_false]; try rfl; done)) PopOk.same))⟩
theorem L33ax.e0 (n : Nat) (g : Nat → PD) (hn : n ≤ 9223372036854775807) (u : Int) (w : Int) (h0 : 0 ≤ u) (h1 : u ≤ w) (h2 : w ≤ (↑n : Int)) (h3 : w ≤ 9223372036854775807) (a29 : Int) (ao2_0 : Int) (ao2_1 : Int) (hinv : L33ax.inv n g u w a29 ao2_0 ao2_1) (a0 : Int) (a1 : Int) (hN : L33ax.run g u w a29 ao2_0 ao2_1 = (.e0 a0 a1 : L33ax.O)) : LoopTo Try.prog (loopN Try.f33 0) (L33ax.T n g u w a29 ao2_0 ao2_1) (L33ax.H n g u w a29 ao2_0 ao2_1) (Exit.exit 0) (L33ax.X n g u w (.e0 a0 a1 : L33ax.O)) (L33ax.XH n g u w (.e0 a0 a1 : L33ax.O)) := by
  have h_ := L33ax.spec n g hn u w h0 h1 h2 h3 ((((↑(w.toNat - u.toNat) : Int) - a29).toNat) + 1) (a29, ao2_0, ao2_1) hinv (Nat.lt_succ_self _)
  unfold L33ax.run at hN
  simp only [hN] at h_
  exact h_

noncomputable def r33.v0 (n : Nat) (g : Nat → PD) (u : Int) (w : Int) : Int := (bif w == (↑n : Int) then (match L33a.run g u w 0 0 0 with | .e0 h2d0 h2d1 => h2d0 ) else (match L33ax.run g u w 0 0 0 with | .e0 h2d0 h2d1 => h2d0 ))
noncomputable def r33.v1 (n : Nat) (g : Nat → PD) (u : Int) (w : Int) : Int := (bif w == (↑n : Int) then (match L33a.run g u w 0 0 0 with | .e0 h2d0 h2d1 => h2d1 ) else (match L33ax.run g u w 0 0 0 with | .e0 h2d0 h2d1 => h2d1 ))
noncomputable def r33.v2 (n : Nat) (g : Nat → PD) (u : Int) (w : Int) : Int := (bif w == (↑n : Int) then (match L33a.run g u w 0 0 0 with | .e0 h2d0 h2d1 => IntKind.i64.wrap (IntKind.i64.wrap (w - u) - 1) ) else (match L33ax.run g u w 0 0 0 with | .e0 h2d0 h2d1 => IntKind.i64.wrap (w - u) ))
theorem r33 (n : Nat) (g : Nat → PD) (hn : n ≤ 9223372036854775807) (j1 : Int) (j2 : Int) (k : Nat) (p : Nat → PD) (u : Int) (w : Int) (h0 : 0 ≤ u) (h1 : u ≤ w) (h2 : w ≤ (↑n : Int)) (h3 : w ≤ 9223372036854775807) (h : AHeap) : Ret Try.prog 33 ([rn n g j1 j2 k p, AV.int IntKind.i64 u, AV.int IntKind.i64 w]) h (AV.agg ((AV.int IntKind.i64 (r33.v0 n g u w)) :: ((AV.int IntKind.i64 (r33.v1 n g u w)) :: ((AV.int IntKind.i64 (r33.v2 n g u w)) :: [])))) h := by
  cases h1 : w == (↑n : Int) with
  | true =>
    have h1p := eq_of_beq h1
    have o0 : (0 : Int) ≤ u := by first | assumption | omega | (simp_all; done)
    have o1 : u ≤ w := by first | assumption | omega | (simp_all; done)
    have o2 : w ≤ (↑n : Int) := by first | assumption | omega | (simp_all; done)
    have o3 : n ≤ (9223372036854775807 : Nat) := by first | assumption | omega | (simp_all; done)
    have o4 : w ≤ (9223372036854775807 : Int) := by first | assumption | omega | (simp_all; done)
    have o5 : (0 : Int) ≤ (↑(w.toNat - u.toNat) : Int) ∨ (0 : Int) ≤ (0 : Int) := by first | assumption | omega | (simp_all; done)
    cases h2 : L33a.run g u w 0 0 0 with
    | e0 h2d0 h2d1 =>
      exact Ret.of_run1 mix [(AV.agg ((AV.int IntKind.i64 (r33.v0 n g u w)) :: ((AV.int IntKind.i64 (r33.v1 n g u w)) :: ((AV.int IntKind.i64 (r33.v2 n g u w)) :: []))))] Try.func33 rfl [.b true, .virt [0] [], .loop (others 38 [6, 7, 27, 28, 29]) (Exit.exit 0) (L33a.X n g u w (L33a.O.e0 h2d0 h2d1)) (L33a.XH n g u w (L33a.O.e0 h2d0 h2d1))] (by simp) (by simp) (kmp (by kernel_rfl) (And.intro h1 (And.intro (And.intro o0 (And.intro o1 o2)) (And.intro trivial (And.intro (L33a.e0 (n) (g) o3 (u) (w) o0 o1 o2 o4 (0) (0) (0) (And.intro (show (0 : Int) ≤ (0 : Int) by first | decide | exact Int.NonNeg.mk _) o5) h2d0 h2d1 h2) (And.intro (And.intro trivial (show (AV.agg [AV.int IntKind.i64 h2d0, AV.int IntKind.i64 h2d1, AV.int IntKind.i64 (IntKind.i64.wrap (IntKind.i64.wrap (w - u) - 1))]) = ((AV.agg ((AV.int IntKind.i64 (r33.v0 n g u w)) :: ((AV.int IntKind.i64 (r33.v1 n g u w)) :: ((AV.int IntKind.i64 (r33.v2 n g u w)) :: []))))) by first | (simp only [r33.v0, r33.v1, r33.v2, h1, h2, cond_true, cond_false]; done) | (try unfold r33.v0; try unfold r33.v1; try unfold r33.v2; try simp only [h1, cond_true, cond_false]; try simp only [h2, cond_true, cond_false]; try rfl; done) | rfl)) trivial)))))) h
  | false =>
    have h1p := ne_of_beq_false h1
    have o0 : (0 : Int) ≤ u := by first | assumption | omega | (simp_all; done)
    have o1 : u ≤ w := by first | assumption | omega | (simp_all; done)
    have o2 : w ≤ (↑n : Int) := by first | assumption | omega | (simp_all; done)
    have o3 : n ≤ (9223372036854775807 : Nat) := by first | assumption | omega | (simp_all; done)
    have o4 : w ≤ (9223372036854775807 : Int) := by first | assumption | omega | (simp_all; done)
    have o5 : (0 : Int) ≤ (↑(w.toNat - u.toNat) : Int) ∨ (0 : Int) ≤ (0 : Int) := by first | assumption | omega | (simp_all; done)
    cases h2 : L33ax.run g u w 0 0 0 with
    | e0 h2d0 h2d1 =>
      exact Ret.of_run1 mix [(AV.agg ((AV.int IntKind.i64 (r33.v0 n g u w)) :: ((AV.int IntKind.i64 (r33.v1 n g u w)) :: ((AV.int IntKind.i64 (r33.v2 n g u w)) :: []))))] Try.func33 rfl [.b false, .virt [0] [], .loop (others 38 [6, 7, 27, 28, 29]) (Exit.exit 0) (L33ax.X n g u w (L33ax.O.e0 h2d0 h2d1)) (L33ax.XH n g u w (L33ax.O.e0 h2d0 h2d1))] (by simp) (by simp) (kmp (by kernel_rfl) (And.intro h1 (And.intro (And.intro o0 (And.intro o1 o2)) (And.intro trivial (And.intro (L33ax.e0 (n) (g) o3 (u) (w) o0 o1 o2 o4 (0) (0) (0) (And.intro (show (0 : Int) ≤ (0 : Int) by first | decide | exact Int.NonNeg.mk _) o5) h2d0 h2d1 h2) (And.intro (And.intro trivial (show (AV.agg [AV.int IntKind.i64 h2d0, AV.int IntKind.i64 h2d1, AV.int IntKind.i64 (IntKind.i64.wrap (w - u))]) = ((AV.agg ((AV.int IntKind.i64 (r33.v0 n g u w)) :: ((AV.int IntKind.i64 (r33.v1 n g u w)) :: ((AV.int IntKind.i64 (r33.v2 n g u w)) :: []))))) by first | (simp only [r33.v0, r33.v1, r33.v2, h1, h2, cond_true, cond_false]; done) | (try unfold r33.v0; try unfold r33.v1; try unfold r33.v2; try simp only [h1, cond_true, cond_false]; try simp only [h2, cond_true, cond_false]; try rfl; done) | rfl)) trivial)))))) h

inductive L17a.O where
  | e0 (a0 : Int) (a1 : Int)
noncomputable def L17a.T (n : Nat) (g : Nat → PD) (j1 : Int) (j2 : Int) (k : Nat) (p : Nat → PD) (u : Int) (w : Int) (a9 : Int) (ao2_0 : Int) (ao2_1 : Int) : List AV := mkT 58 [(2, AV.int IntKind.i64 w), (3, AV.ptr 0 1 4 0 0), (6, AV.ptr 1 1 2 0 0), (8, AV.ptr 2 1 2 0 0), (9, AV.int IntKind.i64 a9)]
noncomputable def L17a.H (n : Nat) (g : Nat → PD) (j1 : Int) (j2 : Int) (k : Nat) (p : Nat → PD) (u : Int) (w : Int) (a9 : Int) (ao2_0 : Int) (ao2_1 : Int) : AHeap := [AObj.var (AV.agg [AV.sl 2 n fun (i : Nat) => AV.agg [AV.int IntKind.i64 (g i).lo, AV.int IntKind.i64 (g i).hi], AV.int IntKind.i64 j1, AV.int IntKind.i64 j2, AV.sl 2 k fun (i : Nat) => AV.agg [AV.int IntKind.i64 (p i).lo, AV.int IntKind.i64 (p i).hi]]), AObj.var (AV.agg [AV.int IntKind.i64 0, AV.int IntKind.i64 0]), AObj.var (AV.agg [AV.int IntKind.i64 ao2_0, AV.int IntKind.i64 ao2_1])]
def L17a.inv (n : Nat) (g : Nat → PD) (j1 : Int) (j2 : Int) (k : Nat) (p : Nat → PD) (u : Int) (w : Int) (a9 : Int) (ao2_0 : Int) (ao2_1 : Int) : Prop := 0 ≤ a9 ∧ a9 ≤ w
noncomputable def L17a.mu (n : Nat) (g : Nat → PD) (j1 : Int) (j2 : Int) (k : Nat) (p : Nat → PD) (u : Int) (w : Int) (a9 : Int) (ao2_0 : Int) (ao2_1 : Int) : Nat := (w - a9).toNat
noncomputable def L17a.E : L17a.O → Exit
  | .e0 a0 a1 => Exit.exit 0
noncomputable def L17a.X (n : Nat) (g : Nat → PD) (j1 : Int) (j2 : Int) (k : Nat) (p : Nat → PD) (u : Int) (w : Int) : L17a.O → List AV
  | .e0 a0 a1 => mkT 58 [(6, (AV.ptr 1 1 2 0 0)), (8, (AV.ptr 2 1 2 0 0))]
noncomputable def L17a.XH (n : Nat) (g : Nat → PD) (j1 : Int) (j2 : Int) (k : Nat) (p : Nat → PD) (u : Int) (w : Int) : L17a.O → AHeap
  | .e0 a0 a1 => ((AObj.var (AV.agg [AV.sl 2 n fun (i : Nat) => AV.agg [AV.int IntKind.i64 (g i).lo, AV.int IntKind.i64 (g i).hi], AV.int IntKind.i64 j1, AV.int IntKind.i64 j2, AV.sl 2 k fun (i : Nat) => AV.agg [AV.int IntKind.i64 (p i).lo, AV.int IntKind.i64 (p i).hi]])) :: ((AObj.var (AV.agg [AV.int IntKind.i64 0, AV.int IntKind.i64 0])) :: ((AObj.var (AV.agg ((AV.int IntKind.i64 a0) :: ((AV.int IntKind.i64 a1) :: ([]))))) :: ([]))))
noncomputable def L17a.N (g : Nat → PD) (w : Int) : Nat → Int → Int → Int → L17a.O
  | 0, _, _, _ => .e0 default default
  | k_ + 1, a9, ao2_0, ao2_1 => (bif decide (a9 < w) then (L17a.N g w k_ (IntKind.i64.wrap (a9 + 1)) (IntKind.i64.wrap (ao2_0 + (g a9.toNat).lo)) (IntKind.i64.wrap (ao2_1 + (g a9.toNat).hi))) else (.e0 (ao2_0) (ao2_1)))
noncomputable def L17a.run (g : Nat → PD) (w : Int) (a9 : Int) (ao2_0 : Int) (ao2_1 : Int) : L17a.O := L17a.N g w (((w - a9).toNat) + 1) a9 ao2_0 ao2_1
def L17a.Next (n : Nat) (g : Nat → PD) (j1 : Int) (j2 : Int) (k : Nat) (p : Nat → PD) (u : Int) (w : Int) (k_ : Nat) (z_ : Int × Int × Int) (T_ : List AV) (h_ : AHeap) : Prop := LNextP (fun (z_ : Int × Int × Int) => L17a.T n g j1 j2 k p u w z_.1 z_.2.1 z_.2.2) (fun (z_ : Int × Int × Int) => L17a.H n g j1 j2 k p u w z_.1 z_.2.1 z_.2.2) (fun (z_ : Int × Int × Int) => L17a.inv n g j1 j2 k p u w z_.1 z_.2.1 z_.2.2) (fun (z_ : Int × Int × Int) => L17a.mu n g j1 j2 k p u w z_.1 z_.2.1 z_.2.2) (fun (k_ : Nat) (z_ : Int × Int × Int) => L17a.N g w k_ z_.1 z_.2.1 z_.2.2) k_ z_ T_ h_
def L17a.End (n : Nat) (g : Nat → PD) (j1 : Int) (j2 : Int) (k : Nat) (p : Nat → PD) (u : Int) (w : Int) (k_ : Nat) (z_ : Int × Int × Int) (e_ : Exit) (T_ : List AV) (h_ : AHeap) : Prop := LEndP (fun (z_ : Int × Int × Int) => L17a.H n g j1 j2 k p u w z_.1 z_.2.1 z_.2.2) (fun (k_ : Nat) (z_ : Int × Int × Int) => L17a.N g w k_ z_.1 z_.2.1 z_.2.2) L17a.E (L17a.X n g j1 j2 k p u w) (L17a.XH n g j1 j2 k p u w) k_ z_ e_ T_ h_
theorem L17a.nx (n : Nat) (g : Nat → PD) (j1 : Int) (j2 : Int) (k : Nat) (p : Nat → PD) (u : Int) (w : Int) {k_ : Nat} {z_ : Int × Int × Int} {h_ : AHeap} (s_ : Int × Int × Int) (h1 : L17a.inv n g j1 j2 k p u w s_.1 s_.2.1 s_.2.2) (h2 : L17a.mu n g j1 j2 k p u w s_.1 s_.2.1 s_.2.2 < L17a.mu n g j1 j2 k p u w z_.1 z_.2.1 z_.2.2) (h3 : L17a.N g w k_ s_.1 s_.2.1 s_.2.2 = L17a.N g w (k_ + 1) z_.1 z_.2.1 z_.2.2) (h4 : PopOk (L17a.H n g j1 j2 k p u w z_.1 z_.2.1 z_.2.2) h_ (L17a.T n g j1 j2 k p u w s_.1 s_.2.1 s_.2.2) (L17a.H n g j1 j2 k p u w s_.1 s_.2.1 s_.2.2)) : LNextP (fun (z_ : Int × Int × Int) => L17a.T n g j1 j2 k p u w z_.1 z_.2.1 z_.2.2) (fun (z_ : Int × Int × Int) => L17a.H n g j1 j2 k p u w z_.1 z_.2.1 z_.2.2) (fun (z_ : Int × Int × Int) => L17a.inv n g j1 j2 k p u w z_.1 z_.2.1 z_.2.2) (fun (z_ : Int × Int × Int) => L17a.mu n g j1 j2 k p u w z_.1 z_.2.1 z_.2.2) (fun (k_ : Nat) (z_ : Int × Int × Int) => L17a.N g w k_ z_.1 z_.2.1 z_.2.2) k_ z_ (L17a.T n g j1 j2 k p u w s_.1 s_.2.1 s_.2.2) h_ := LNextP.mk (Tm := (fun (z_ : Int × Int × Int) => L17a.T n g j1 j2 k p u w z_.1 z_.2.1 z_.2.2)) (Hp := (fun (z_ : Int × Int × Int) => L17a.H n g j1 j2 k p u w z_.1 z_.2.1 z_.2.2)) (inv := (fun (z_ : Int × Int × Int) => L17a.inv n g j1 j2 k p u w z_.1 z_.2.1 z_.2.2)) (mu := (fun (z_ : Int × Int × Int) => L17a.mu n g j1 j2 k p u w z_.1 z_.2.1 z_.2.2)) (l := (fun (k_ : Nat) (z_ : Int × Int × Int) => L17a.N g w k_ z_.1 z_.2.1 z_.2.2)) s_ h1 h2 h3 h4
theorem L17a.en (n : Nat) (g : Nat → PD) (j1 : Int) (j2 : Int) (k : Nat) (p : Nat → PD) (u : Int) (w : Int) {k_ : Nat} {z_ : Int × Int × Int} {h_ : AHeap} (o_ : L17a.O) (h3 : L17a.N g w (k_ + 1) z_.1 z_.2.1 z_.2.2 = o_) (h4 : PopOk (L17a.H n g j1 j2 k p u w z_.1 z_.2.1 z_.2.2) h_ (L17a.X n g j1 j2 k p u w o_) (L17a.XH n g j1 j2 k p u w o_)) : LEndP (fun (z_ : Int × Int × Int) => L17a.H n g j1 j2 k p u w z_.1 z_.2.1 z_.2.2) (fun (k_ : Nat) (z_ : Int × Int × Int) => L17a.N g w k_ z_.1 z_.2.1 z_.2.2) L17a.E (L17a.X n g j1 j2 k p u w) (L17a.XH n g j1 j2 k p u w) k_ z_ (L17a.E o_) (L17a.X n g j1 j2 k p u w o_) h_ := LEndP.mk (Hp := (fun (z_ : Int × Int × Int) => L17a.H n g j1 j2 k p u w z_.1 z_.2.1 z_.2.2)) (l := (fun (k_ : Nat) (z_ : Int × Int × Int) => L17a.N g w k_ z_.1 z_.2.1 z_.2.2)) (oE := L17a.E) (oT := L17a.X n g j1 j2 k p u w) (oH := L17a.XH n g j1 j2 k p u w) o_ h3 h4
theorem L17a.spec (n : Nat) (g : Nat → PD) (hn : n ≤ 9223372036854775807) (j1 : Int) (j2 : Int) (k : Nat) (p : Nat → PD) (u : Int) (w : Int) (h0 : 0 ≤ u) (h1 : u ≤ w) (h2 : w ≤ (↑n : Int)) (h3 : w ≤ 9223372036854775807) (k_ : Nat) (z_ : Int × Int × Int) (hi_ : L17a.inv n g j1 j2 k p u w z_.1 z_.2.1 z_.2.2) (hm_ : L17a.mu n g j1 j2 k p u w z_.1 z_.2.1 z_.2.2 < k_) : LoopTo Try.prog (loopN Try.f17 0) (L17a.T n g j1 j2 k p u w z_.1 z_.2.1 z_.2.2) (L17a.H n g j1 j2 k p u w z_.1 z_.2.1 z_.2.2) (L17a.E (L17a.N g w k_ z_.1 z_.2.1 z_.2.2)) (L17a.X n g j1 j2 k p u w (L17a.N g w k_ z_.1 z_.2.1 z_.2.2)) (L17a.XH n g j1 j2 k p u w (L17a.N g w k_ z_.1 z_.2.1 z_.2.2)) := by
  refine LoopTo.fuelP mix (fun (z_ : Int × Int × Int) => L17a.T n g j1 j2 k p u w z_.1 z_.2.1 z_.2.2) (fun (z_ : Int × Int × Int) => L17a.H n g j1 j2 k p u w z_.1 z_.2.1 z_.2.2) (fun (z_ : Int × Int × Int) => L17a.inv n g j1 j2 k p u w z_.1 z_.2.1 z_.2.2) (fun (z_ : Int × Int × Int) => L17a.mu n g j1 j2 k p u w z_.1 z_.2.1 z_.2.2) (fun (k_ : Nat) (z_ : Int × Int × Int) => L17a.N g w k_ z_.1 z_.2.1 z_.2.2) L17a.E (L17a.X n g j1 j2 k p u w) (L17a.XH n g j1 j2 k p u w) (others 58 [2, 3, 6, 8, 9]) (others 58 [6]) (others 58 [6, 8]) ?_ k_ z_ hi_ hm_
  clear hm_ hi_ z_ k_
  intro k_ z_ hinv hmu
  obtain ⟨a9, ao2_0, ao2_1⟩ := z_
  have hinv : 0 ≤ a9 ∧ a9 ≤ w := hinv
  have hmu : ((w - a9).toNat) < k_ + 1 := hmu
  cases h1 : decide (a9 < w) with
  | true =>
    have h1p := of_decide_eq_true h1
    have o0 : (0 : Int) ≤ a9 := by first | assumption | omega | (simp_all; done)
    have o1 : a9 < (↑n : Int) := by first | assumption | omega | (simp_all; done)
    try have := IntWalk.i64_in (a9 + 1) (by omega)
    have o2 : (0 : Int) ≤ IntKind.i64.wrap (a9 + (1 : Int)) := by first | assumption | omega | (simp_all; done)
    have o3 : IntKind.i64.wrap (a9 + (1 : Int)) ≤ w := by first | assumption | omega | (simp_all; done)
    have o4 : (w - IntKind.i64.wrap (a9 + (1 : Int))).toNat < (w - a9).toNat := by first | assumption | omega | (simp_all; done)
    exact ⟨[.b true], kmp (by kernel_rfl) (And.intro h1 (And.intro (And.intro o0 o1) (And.intro (And.intro o0 o1) (L17a.nx n g j1 j2 k p u w (k_ := k_) (z_ := (a9, ao2_0, ao2_1)) ((IntKind.i64.wrap (a9 + 1), IntKind.i64.wrap (ao2_0 + (g a9.toNat).lo), IntKind.i64.wrap (ao2_1 + (g a9.toNat).hi))) (And.intro o2 o3) o4 (by first | (simp only [L17a.N, h1, cond_true, cond_false]; done) | (try unfold L17a.N; try simp only [h1, cond_true, cond_false]; try rfl; done)) PopOk.same))))⟩
  | false =>
    have h1p := of_decide_eq_false h1
    exact ⟨[.b false], kmp (by kernel_rfl) (And.intro h1 (L17a.en n g j1 j2 k p u w (k_ := k_) (z_ := (a9, ao2_0, ao2_1)) (.e0 (ao2_0) (ao2_1) : L17a.O) (by first | (simp only [L17a.N, h1, cond_true, cond_false]; done) | (try unfold L17a.N; try simp only [h1, cond_true, cond_false]; try rfl; done)) PopOk.same))⟩
theorem L17a.e0 (n : Nat) (g : Nat → PD) (hn : n ≤ 9223372036854775807) (j1 : Int) (j2 : Int) (k : Nat) (p : Nat → PD) (u : Int) (w : Int) (h0 : 0 ≤ u) (h1 : u ≤ w) (h2 : w ≤ (↑n : Int)) (h3 : w ≤ 9223372036854775807) (a9 : Int) (ao2_0 : Int) (ao2_1 : Int) (hinv : L17a.inv n g j1 j2 k p u w a9 ao2_0 ao2_1) (a0 : Int) (a1 : Int) (hN : L17a.run g w a9 ao2_0 ao2_1 = (.e0 a0 a1 : L17a.O)) : LoopTo Try.prog (loopN Try.f17 0) (L17a.T n g j1 j2 k p u w a9 ao2_0 ao2_1) (L17a.H n g j1 j2 k p u w a9 ao2_0 ao2_1) (Exit.exit 0) (L17a.X n g j1 j2 k p u w (.e0 a0 a1 : L17a.O)) (L17a.XH n g j1 j2 k p u w (.e0 a0 a1 : L17a.O)) := by
  have h_ := L17a.spec n g hn j1 j2 k p u w h0 h1 h2 h3 (((w - a9).toNat) + 1) (a9, ao2_0, ao2_1) hinv (Nat.lt_succ_self _)
  unfold L17a.run at hN
  simp only [hN] at h_
  exact h_

noncomputable def r17.v0 (n : Nat) (g : Nat → PD) (j1 : Int) (j2 : Int) (u : Int) (w : Int) : Int := (bif w == (↑n : Int) then (match L17a.run g w u (IntKind.i64.wrap (IntKind.i64.wrap (IntKind.i64.wrap (w - u) - 1) * j1)) (IntKind.i64.wrap (IntKind.i64.wrap (IntKind.i64.wrap (w - u) - 1) * j2)) with | .e0 h2d0 h2d1 => h2d0 ) else (match L17a.run g w u (IntKind.i64.wrap (IntKind.i64.wrap (w - u) * j1)) (IntKind.i64.wrap (IntKind.i64.wrap (w - u) * j2)) with | .e0 h2d0 h2d1 => h2d0 ))
noncomputable def r17.v1 (n : Nat) (g : Nat → PD) (j1 : Int) (j2 : Int) (u : Int) (w : Int) : Int := (bif w == (↑n : Int) then (match L17a.run g w u (IntKind.i64.wrap (IntKind.i64.wrap (IntKind.i64.wrap (w - u) - 1) * j1)) (IntKind.i64.wrap (IntKind.i64.wrap (IntKind.i64.wrap (w - u) - 1) * j2)) with | .e0 h2d0 h2d1 => h2d1 ) else (match L17a.run g w u (IntKind.i64.wrap (IntKind.i64.wrap (w - u) * j1)) (IntKind.i64.wrap (IntKind.i64.wrap (w - u) * j2)) with | .e0 h2d0 h2d1 => h2d1 ))
theorem r17 (n : Nat) (g : Nat → PD) (hn : n ≤ 9223372036854775807) (j1 : Int) (j2 : Int) (k : Nat) (p : Nat → PD) (u : Int) (w : Int) (h0 : 0 ≤ u) (h1 : u ≤ w) (h2 : w ≤ (↑n : Int)) (h3 : w ≤ 9223372036854775807) (h : AHeap) : Ret Try.prog 17 ([rn n g j1 j2 k p, AV.int IntKind.i64 u, AV.int IntKind.i64 w]) h (AV.agg ((AV.int IntKind.i64 (r17.v0 n g j1 j2 u w)) :: ((AV.int IntKind.i64 (r17.v1 n g j1 j2 u w)) :: []))) h := by
  cases h1 : w == (↑n : Int) with
  | true =>
    have h1p := eq_of_beq h1
    have o0 : n ≤ (9223372036854775807 : Nat) := by first | assumption | omega | (simp_all; done)
    have o1 : (0 : Int) ≤ u := by first | assumption | omega | (simp_all; done)
    have o2 : u ≤ w := by first | assumption | omega | (simp_all; done)
    have o3 : w ≤ (↑n : Int) := by first | assumption | omega | (simp_all; done)
    have o4 : w ≤ (9223372036854775807 : Int) := by first | assumption | omega | (simp_all; done)
    cases h2 : L17a.run g w u (IntKind.i64.wrap (IntKind.i64.wrap (IntKind.i64.wrap (w - u) - 1) * j1)) (IntKind.i64.wrap (IntKind.i64.wrap (IntKind.i64.wrap (w - u) - 1) * j2)) with
    | e0 h2d0 h2d1 =>
      exact Ret.of_run1 mix [(AV.agg ((AV.int IntKind.i64 (r17.v0 n g j1 j2 u w)) :: ((AV.int IntKind.i64 (r17.v1 n g j1 j2 u w)) :: [])))] Try.func17 rfl [.b true, .loop (others 58 [2, 3, 6, 8, 9]) (Exit.exit 0) (L17a.X n g j1 j2 k p u w (L17a.O.e0 h2d0 h2d1)) (L17a.XH n g j1 j2 k p u w (L17a.O.e0 h2d0 h2d1))] (by simp) (by simp) (kmp (by kernel_rfl) (And.intro h1 (And.intro (L17a.e0 (n) (g) o0 (j1) (j2) (k) (p) (u) (w) o1 o2 o3 o4 (u) (IntKind.i64.wrap (IntKind.i64.wrap (IntKind.i64.wrap (w - u) - 1) * j1)) (IntKind.i64.wrap (IntKind.i64.wrap (IntKind.i64.wrap (w - u) - 1) * j2)) (And.intro o1 o2) h2d0 h2d1 h2) (And.intro (And.intro trivial (show (AV.agg [AV.int IntKind.i64 h2d0, AV.int IntKind.i64 h2d1]) = ((AV.agg ((AV.int IntKind.i64 (r17.v0 n g j1 j2 u w)) :: ((AV.int IntKind.i64 (r17.v1 n g j1 j2 u w)) :: [])))) by first | (simp only [r17.v0, r17.v1, h1, h2, cond_true, cond_false]; done) | (try unfold r17.v0; try unfold r17.v1; try simp only [h1, cond_true, cond_false]; try simp only [h2, cond_true, cond_false]; try rfl; done) | rfl)) trivial)))) h
  | false =>
    have h1p := ne_of_beq_false h1
    have o0 : n ≤ (9223372036854775807 : Nat) := by first | assumption | omega | (simp_all; done)
    have o1 : (0 : Int) ≤ u := by first | assumption | omega | (simp_all; done)
    have o2 : u ≤ w := by first | assumption | omega | (simp_all; done)
    have o3 : w ≤ (↑n : Int) := by first | assumption | omega | (simp_all; done)
    have o4 : w ≤ (9223372036854775807 : Int) := by first | assumption | omega | (simp_all; done)
    cases h2 : L17a.run g w u (IntKind.i64.wrap (IntKind.i64.wrap (w - u) * j1)) (IntKind.i64.wrap (IntKind.i64.wrap (w - u) * j2)) with
    | e0 h2d0 h2d1 =>
      exact Ret.of_run1 mix [(AV.agg ((AV.int IntKind.i64 (r17.v0 n g j1 j2 u w)) :: ((AV.int IntKind.i64 (r17.v1 n g j1 j2 u w)) :: [])))] Try.func17 rfl [.b false, .loop (others 58 [2, 3, 6, 8, 9]) (Exit.exit 0) (L17a.X n g j1 j2 k p u w (L17a.O.e0 h2d0 h2d1)) (L17a.XH n g j1 j2 k p u w (L17a.O.e0 h2d0 h2d1))] (by simp) (by simp) (kmp (by kernel_rfl) (And.intro h1 (And.intro (L17a.e0 (n) (g) o0 (j1) (j2) (k) (p) (u) (w) o1 o2 o3 o4 (u) (IntKind.i64.wrap (IntKind.i64.wrap (w - u) * j1)) (IntKind.i64.wrap (IntKind.i64.wrap (w - u) * j2)) (And.intro o1 o2) h2d0 h2d1 h2) (And.intro (And.intro trivial (show (AV.agg [AV.int IntKind.i64 h2d0, AV.int IntKind.i64 h2d1]) = ((AV.agg ((AV.int IntKind.i64 (r17.v0 n g j1 j2 u w)) :: ((AV.int IntKind.i64 (r17.v1 n g j1 j2 u w)) :: [])))) by first | (simp only [r17.v0, r17.v1, h1, h2, cond_true, cond_false]; done) | (try unfold r17.v0; try unfold r17.v1; try simp only [h1, cond_true, cond_false]; try simp only [h2, cond_true, cond_false]; try rfl; done) | rfl)) trivial)))) h

noncomputable def r13.v0 (n : Nat) (g : Nat → PD) (j1 : Int) (j2 : Int) (k : Nat) (p : Nat → PD) (u : Int) (w : Int) : Int := (bif r16.v n g j1 j2 k p == 0 then (bif decide (u < 0) then 0 else (bif decide (w > (↑n : Int)) then 0 else (bif decide (u ≥ w) then 0 else IntKind.i64.wrap (r33.v0 n g u w + IntKind.i64.wrap (r33.v2 n g u w * j1))))) else 0)
noncomputable def r13.v1 (n : Nat) (g : Nat → PD) (j1 : Int) (j2 : Int) (k : Nat) (p : Nat → PD) (u : Int) (w : Int) : Int := (bif r16.v n g j1 j2 k p == 0 then (bif decide (u < 0) then 0 else (bif decide (w > (↑n : Int)) then 0 else (bif decide (u ≥ w) then 0 else IntKind.i64.wrap (r33.v1 n g u w + IntKind.i64.wrap (r33.v2 n g u w * j2))))) else 0)
noncomputable def r13.v2 (n : Nat) (g : Nat → PD) (j1 : Int) (j2 : Int) (k : Nat) (p : Nat → PD) (u : Int) (w : Int) : Int := (bif r16.v n g j1 j2 k p == 0 then (bif decide (u < 0) then 6 else (bif decide (w > (↑n : Int)) then 6 else (bif decide (u ≥ w) then 6 else 0))) else r16.v n g j1 j2 k p)
noncomputable abbrev r13.h0 (n : Nat) (g : Nat → PD) (j1 : Int) (j2 : Int) (k : Nat) (p : Nat → PD) (u : Int) (w : Int) : AHeap := ([AObj.var (AV.agg [AV.sl 2 n fun (i : Nat) => AV.agg [AV.int IntKind.i64 (g i).lo, AV.int IntKind.i64 (g i).hi], AV.int IntKind.i64 j1, AV.int IntKind.i64 j2, AV.sl 2 k fun (i : Nat) => AV.agg [AV.int IntKind.i64 (p i).lo, AV.int IntKind.i64 (p i).hi]]), AObj.var (AV.agg [AV.int IntKind.i64 0, AV.int IntKind.i64 0])])
theorem r13 (n : Nat) (g : Nat → PD) (hn : n ≤ 9223372036854775807) (j1 : Int) (j2 : Int) (k : Nat) (p : Nat → PD) (hk : k ≤ 9223372036854775807) (u : Int) (w : Int) (h : AHeap) : Ret Try.prog 13 ([rn n g j1 j2 k p, AV.int IntKind.i64 u, AV.int IntKind.i64 w]) h (AV.tup [(AV.agg ((AV.int IntKind.i64 (r13.v0 n g j1 j2 k p u w)) :: ((AV.int IntKind.i64 (r13.v1 n g j1 j2 k p u w)) :: []))), (AV.int IntKind.i64 (r13.v2 n g j1 j2 k p u w))]) h := by
  have o0 : n ≤ (9223372036854775807 : Nat) := by first | assumption | omega | (simp_all; done)
  have o1 : k ≤ (9223372036854775807 : Nat) := by first | assumption | omega | (simp_all; done)
  cases h1 : r16.v n g j1 j2 k p == 0 with
  | true =>
    have h1p := eq_of_beq h1
    cases h2 : decide (u < 0) with
    | true =>
      have h2p := of_decide_eq_true h2
      exact Ret.of_run1 mix [(AV.agg ((AV.int IntKind.i64 (r13.v0 n g j1 j2 k p u w)) :: ((AV.int IntKind.i64 (r13.v1 n g j1 j2 k p u w)) :: []))), (AV.int IntKind.i64 (r13.v2 n g j1 j2 k p u w))] Try.func13 rfl [.ret (AV.int IntKind.i64 (r16.v n g j1 j2 k p)) (r13.h0 n g j1 j2 k p u w), .b false, .b true, .b true, .b true, .b true, .b true, .b true, .b true, .b true, .b true, .b true, .b true] (by simp) (by simp) (kmp (by kernel_rfl) (And.intro (r16 (n) (g) o0 (j1) (j2) (k) (p) o1 (r13.h0 n g j1 j2 k p u w)) (And.intro (show (bnot (r16.v n g j1 j2 k p == 0)) = false by rw [h1]; try rfl) (And.intro h2 (And.intro h2 (And.intro h2 (And.intro h2 (And.intro h2 (And.intro h2 (And.intro (rfl : true = true) (And.intro (rfl : true = true) (And.intro (rfl : true = true) (And.intro (rfl : true = true) (And.intro (rfl : true = true) (And.intro (And.intro trivial (show (AV.agg [AV.int IntKind.i64 0, AV.int IntKind.i64 0]) = ((AV.agg ((AV.int IntKind.i64 (r13.v0 n g j1 j2 k p u w)) :: ((AV.int IntKind.i64 (r13.v1 n g j1 j2 k p u w)) :: [])))) by first | (simp only [r13.v0, r13.v1, r13.v2, h1, h2, cond_true, cond_false]; done) | (try unfold r13.v0; try unfold r13.v1; try unfold r13.v2; try simp only [h1, cond_true, cond_false]; try simp only [h2, cond_true, cond_false]; try rfl; done) | rfl)) (And.intro (show (AV.int IntKind.i64 6) = ((AV.int IntKind.i64 (r13.v2 n g j1 j2 k p u w))) by first | (simp only [r13.v0, r13.v1, r13.v2, h1, h2, cond_true, cond_false]; done) | (try unfold r13.v0; try unfold r13.v1; try unfold r13.v2; try simp only [h1, cond_true, cond_false]; try simp only [h2, cond_true, cond_false]; try rfl; done) | rfl) trivial)))))))))))))))) h
    | false =>
      have h2p := of_decide_eq_false h2
      cases h3 : decide (w > (↑n : Int)) with
      | true =>
        have h3p := of_decide_eq_true h3
        exact Ret.of_run1 mix [(AV.agg ((AV.int IntKind.i64 (r13.v0 n g j1 j2 k p u w)) :: ((AV.int IntKind.i64 (r13.v1 n g j1 j2 k p u w)) :: []))), (AV.int IntKind.i64 (r13.v2 n g j1 j2 k p u w))] Try.func13 rfl [.ret (AV.int IntKind.i64 (r16.v n g j1 j2 k p)) (r13.h0 n g j1 j2 k p u w), .b false, .b false, .b false, .b false, .b false, .b false, .b false, .b true, .b true, .b true, .b true, .b true] (by simp) (by simp) (kmp (by kernel_rfl) (And.intro (r16 (n) (g) o0 (j1) (j2) (k) (p) o1 (r13.h0 n g j1 j2 k p u w)) (And.intro (show (bnot (r16.v n g j1 j2 k p == 0)) = false by rw [h1]; try rfl) (And.intro h2 (And.intro h2 (And.intro h2 (And.intro h2 (And.intro h2 (And.intro h2 (And.intro h3 (And.intro h3 (And.intro h3 (And.intro h3 (And.intro (rfl : true = true) (And.intro (And.intro trivial (show (AV.agg [AV.int IntKind.i64 0, AV.int IntKind.i64 0]) = ((AV.agg ((AV.int IntKind.i64 (r13.v0 n g j1 j2 k p u w)) :: ((AV.int IntKind.i64 (r13.v1 n g j1 j2 k p u w)) :: [])))) by first | (simp only [r13.v0, r13.v1, r13.v2, h1, h2, h3, cond_true, cond_false]; done) | (try unfold r13.v0; try unfold r13.v1; try unfold r13.v2; try simp only [h1, cond_true, cond_false]; try simp only [h2, cond_true, cond_false]; try simp only [h3, cond_true, cond_false]; try rfl; done) | rfl)) (And.intro (show (AV.int IntKind.i64 6) = ((AV.int IntKind.i64 (r13.v2 n g j1 j2 k p u w))) by first | (simp only [r13.v0, r13.v1, r13.v2, h1, h2, h3, cond_true, cond_false]; done) | (try unfold r13.v0; try unfold r13.v1; try unfold r13.v2; try simp only [h1, cond_true, cond_false]; try simp only [h2, cond_true, cond_false]; try simp only [h3, cond_true, cond_false]; try rfl; done) | rfl) trivial)))))))))))))))) h
      | false =>
        have h3p := of_decide_eq_false h3
        cases h4 : decide (u ≥ w) with
        | true =>
          have h4p := of_decide_eq_true h4
          exact Ret.of_run1 mix [(AV.agg ((AV.int IntKind.i64 (r13.v0 n g j1 j2 k p u w)) :: ((AV.int IntKind.i64 (r13.v1 n g j1 j2 k p u w)) :: []))), (AV.int IntKind.i64 (r13.v2 n g j1 j2 k p u w))] Try.func13 rfl [.ret (AV.int IntKind.i64 (r16.v n g j1 j2 k p)) (r13.h0 n g j1 j2 k p u w), .b false, .b false, .b false, .b false, .b false, .b false, .b false, .b false, .b false, .b false, .b false, .b true] (by simp) (by simp) (kmp (by kernel_rfl) (And.intro (r16 (n) (g) o0 (j1) (j2) (k) (p) o1 (r13.h0 n g j1 j2 k p u w)) (And.intro (show (bnot (r16.v n g j1 j2 k p == 0)) = false by rw [h1]; try rfl) (And.intro h2 (And.intro h2 (And.intro h2 (And.intro h2 (And.intro h2 (And.intro h2 (And.intro h3 (And.intro h3 (And.intro h3 (And.intro h3 (And.intro h4 (And.intro (And.intro trivial (show (AV.agg [AV.int IntKind.i64 0, AV.int IntKind.i64 0]) = ((AV.agg ((AV.int IntKind.i64 (r13.v0 n g j1 j2 k p u w)) :: ((AV.int IntKind.i64 (r13.v1 n g j1 j2 k p u w)) :: [])))) by first | (simp only [r13.v0, r13.v1, r13.v2, h1, h2, h3, h4, cond_true, cond_false]; done) | (try unfold r13.v0; try unfold r13.v1; try unfold r13.v2; try simp only [h1, cond_true, cond_false]; try simp only [h2, cond_true, cond_false]; try simp only [h3, cond_true, cond_false]; try simp only [h4, cond_true, cond_false]; try rfl; done) | rfl)) (And.intro (show (AV.int IntKind.i64 6) = ((AV.int IntKind.i64 (r13.v2 n g j1 j2 k p u w))) by first | (simp only [r13.v0, r13.v1, r13.v2, h1, h2, h3, h4, cond_true, cond_false]; done) | (try unfold r13.v0; try unfold r13.v1; try unfold r13.v2; try simp only [h1, cond_true, cond_false]; try simp only [h2, cond_true, cond_false]; try simp only [h3, cond_true, cond_false]; try simp only [h4, cond_true, cond_false]; try rfl; done) | rfl) trivial)))))))))))))))) h
        | false =>
          have h4p := of_decide_eq_false h4
          have o2 : (0 : Int) ≤ u := by first | assumption | omega | (simp_all; done)
          have o3 : u ≤ w := by first | assumption | omega | (simp_all; done)
          have o4 : w ≤ (↑n : Int) := by first | assumption | omega | (simp_all; done)
          have o5 : w ≤ (9223372036854775807 : Int) := by first | assumption | omega | (simp_all; done)
          exact Ret.of_run1 mix [(AV.agg ((AV.int IntKind.i64 (r13.v0 n g j1 j2 k p u w)) :: ((AV.int IntKind.i64 (r13.v1 n g j1 j2 k p u w)) :: []))), (AV.int IntKind.i64 (r13.v2 n g j1 j2 k p u w))] Try.func13 rfl [.ret (AV.int IntKind.i64 (r16.v n g j1 j2 k p)) (r13.h0 n g j1 j2 k p u w), .b false, .b false, .b false, .b false, .b false, .b false, .b false, .b false, .b false, .b false, .b false, .b false, .ret (AV.agg [AV.int IntKind.i64 (r33.v0 n g u w), AV.int IntKind.i64 (r33.v1 n g u w), AV.int IntKind.i64 (r33.v2 n g u w)]) (r13.h0 n g j1 j2 k p u w)] (by simp) (by simp) (kmp (by kernel_rfl) (And.intro (r16 (n) (g) o0 (j1) (j2) (k) (p) o1 (r13.h0 n g j1 j2 k p u w)) (And.intro (show (bnot (r16.v n g j1 j2 k p == 0)) = false by rw [h1]; try rfl) (And.intro h2 (And.intro h2 (And.intro h2 (And.intro h2 (And.intro h2 (And.intro h2 (And.intro h3 (And.intro h3 (And.intro h3 (And.intro h3 (And.intro h4 (And.intro (r33 (n) (g) o0 (j1) (j2) (k) (p) (u) (w) o2 o3 o4 o5 (r13.h0 n g j1 j2 k p u w)) (And.intro (And.intro trivial (show (AV.agg [AV.int IntKind.i64 (IntKind.i64.wrap (r33.v0 n g u w + IntKind.i64.wrap (r33.v2 n g u w * j1))), AV.int IntKind.i64 (IntKind.i64.wrap (r33.v1 n g u w + IntKind.i64.wrap (r33.v2 n g u w * j2)))]) = ((AV.agg ((AV.int IntKind.i64 (r13.v0 n g j1 j2 k p u w)) :: ((AV.int IntKind.i64 (r13.v1 n g j1 j2 k p u w)) :: [])))) by first | (simp only [r13.v0, r13.v1, r13.v2, h1, h2, h3, h4, cond_true, cond_false]; done) | (try unfold r13.v0; try unfold r13.v1; try unfold r13.v2; try simp only [h1, cond_true, cond_false]; try simp only [h2, cond_true, cond_false]; try simp only [h3, cond_true, cond_false]; try simp only [h4, cond_true, cond_false]; try rfl; done) | rfl)) (And.intro (show (AV.int IntKind.i64 0) = ((AV.int IntKind.i64 (r13.v2 n g j1 j2 k p u w))) by first | (simp only [r13.v0, r13.v1, r13.v2, h1, h2, h3, h4, cond_true, cond_false]; done) | (try unfold r13.v0; try unfold r13.v1; try unfold r13.v2; try simp only [h1, cond_true, cond_false]; try simp only [h2, cond_true, cond_false]; try simp only [h3, cond_true, cond_false]; try simp only [h4, cond_true, cond_false]; try rfl; done) | rfl) trivial))))))))))))))))) h
  | false =>
    have h1p := ne_of_beq_false h1
    exact Ret.of_run1 mix [(AV.agg ((AV.int IntKind.i64 (r13.v0 n g j1 j2 k p u w)) :: ((AV.int IntKind.i64 (r13.v1 n g j1 j2 k p u w)) :: []))), (AV.int IntKind.i64 (r13.v2 n g j1 j2 k p u w))] Try.func13 rfl [.ret (AV.int IntKind.i64 (r16.v n g j1 j2 k p)) (r13.h0 n g j1 j2 k p u w), .b true] (by simp) (by simp) (kmp (by kernel_rfl) (And.intro (r16 (n) (g) o0 (j1) (j2) (k) (p) o1 (r13.h0 n g j1 j2 k p u w)) (And.intro (show (bnot (r16.v n g j1 j2 k p == 0)) = true by rw [h1]; try rfl) (And.intro (And.intro trivial (show (AV.agg [AV.int IntKind.i64 0, AV.int IntKind.i64 0]) = ((AV.agg ((AV.int IntKind.i64 (r13.v0 n g j1 j2 k p u w)) :: ((AV.int IntKind.i64 (r13.v1 n g j1 j2 k p u w)) :: [])))) by first | (simp only [r13.v0, r13.v1, r13.v2, h1, cond_true, cond_false]; done) | (try unfold r13.v0; try unfold r13.v1; try unfold r13.v2; try simp only [h1, cond_true, cond_false]; try rfl; done) | rfl)) (And.intro (show (AV.int IntKind.i64 (r16.v n g j1 j2 k p)) = ((AV.int IntKind.i64 (r13.v2 n g j1 j2 k p u w))) by first | (simp only [r13.v0, r13.v1, r13.v2, h1, cond_true, cond_false]; done) | (try unfold r13.v0; try unfold r13.v1; try unfold r13.v2; try simp only [h1, cond_true, cond_false]; try rfl; done) | rfl) trivial))))) h

inductive L42a.O where
  | e0 (a0 : Nat) (a1 : List PT) (a2 : Int) (a3 : Int)
noncomputable def L42a.T (k : Nat) (p : Nat → PD) (av3 : Nat) (al3 : List PT) (a11 : Int) (ao1_0 : Int) (ao1_1 : Int) : List AV := mkT 31 [(3, AV.ms 2 av3 3 0 (List.map PT.av al3).length), (4, AV.ptr 1 1 2 0 0), (9, AV.sl 2 k fun (i : Nat) => AV.agg [AV.int IntKind.i64 (p i).lo, AV.int IntKind.i64 (p i).hi]), (10, AV.int IntKind.i64 (↑k : Int)), (11, AV.int IntKind.i64 a11)]
noncomputable def L42a.H (k : Nat) (p : Nat → PD) (av3 : Nat) (al3 : List PT) (a11 : Int) (ao1_0 : Int) (ao1_1 : Int) : AHeap := [AObj.dead, AObj.var (AV.agg [AV.int IntKind.i64 ao1_0, AV.int IntKind.i64 ao1_1]), AObj.row 3 av3 (Col.recs (List.map PT.av al3))]
def L42a.inv (k : Nat) (p : Nat → PD) (av3 : Nat) (al3 : List PT) (a11 : Int) (ao1_0 : Int) (ao1_1 : Int) : Prop := 0 ≤ a11 ∧ (a11 ≤ (↑k : Int) ∨ a11 ≤ 0) ∧ (↑al3.length : Int) ≤ a11 - 0
noncomputable def L42a.mu (k : Nat) (p : Nat → PD) (av3 : Nat) (al3 : List PT) (a11 : Int) (ao1_0 : Int) (ao1_1 : Int) : Nat := ((↑k : Int) - a11).toNat
noncomputable def L42a.E : L42a.O → Exit
  | .e0 a0 a1 a2 a3 => Exit.exit 0
noncomputable def L42a.X (k : Nat) (p : Nat → PD) : L42a.O → List AV
  | .e0 a0 a1 a2 a3 => mkT 31 [(3, (AV.ms 2 a0 3 0 (List.length (List.map PT.av a1))))]
noncomputable def L42a.XH (k : Nat) (p : Nat → PD) : L42a.O → AHeap
  | .e0 a0 a1 a2 a3 => ((AObj.dead) :: ((AObj.var (AV.agg ((AV.int IntKind.i64 a2) :: ((AV.int IntKind.i64 a3) :: ([]))))) :: ((AObj.row 3 a0 (Col.recs (List.map PT.av a1))) :: ([]))))
noncomputable def L42a.N (k : Nat) (p : Nat → PD) : Nat → Nat → (List PT) → Int → Int → Int → L42a.O
  | 0, _, _, _, _, _ => .e0 default default default default
  | k_ + 1, av3, al3, a11, ao1_0, ao1_1 => (bif decide (a11 < (↑k : Int)) then (L42a.N k p k_ (av3 + 1) (PT.mk ao1_0 (p a11.toNat).lo (IntKind.i64.wrap ((p a11.toNat).hi - ao1_1)) :: al3) (IntKind.i64.wrap (a11 + 1)) ((p a11.toNat).lo) ((p a11.toNat).hi)) else (.e0 (av3) (al3) (ao1_0) (ao1_1)))
noncomputable def L42a.run (k : Nat) (p : Nat → PD) (av3 : Nat) (al3 : List PT) (a11 : Int) (ao1_0 : Int) (ao1_1 : Int) : L42a.O := L42a.N k p ((((↑k : Int) - a11).toNat) + 1) av3 al3 a11 ao1_0 ao1_1
def L42a.Next (k : Nat) (p : Nat → PD) (k_ : Nat) (z_ : Nat × (List PT) × Int × Int × Int) (T_ : List AV) (h_ : AHeap) : Prop := LNextP (fun (z_ : Nat × (List PT) × Int × Int × Int) => L42a.T k p z_.1 z_.2.1 z_.2.2.1 z_.2.2.2.1 z_.2.2.2.2) (fun (z_ : Nat × (List PT) × Int × Int × Int) => L42a.H k p z_.1 z_.2.1 z_.2.2.1 z_.2.2.2.1 z_.2.2.2.2) (fun (z_ : Nat × (List PT) × Int × Int × Int) => L42a.inv k p z_.1 z_.2.1 z_.2.2.1 z_.2.2.2.1 z_.2.2.2.2) (fun (z_ : Nat × (List PT) × Int × Int × Int) => L42a.mu k p z_.1 z_.2.1 z_.2.2.1 z_.2.2.2.1 z_.2.2.2.2) (fun (k_ : Nat) (z_ : Nat × (List PT) × Int × Int × Int) => L42a.N k p k_ z_.1 z_.2.1 z_.2.2.1 z_.2.2.2.1 z_.2.2.2.2) k_ z_ T_ h_
def L42a.End (k : Nat) (p : Nat → PD) (k_ : Nat) (z_ : Nat × (List PT) × Int × Int × Int) (e_ : Exit) (T_ : List AV) (h_ : AHeap) : Prop := LEndP (fun (z_ : Nat × (List PT) × Int × Int × Int) => L42a.H k p z_.1 z_.2.1 z_.2.2.1 z_.2.2.2.1 z_.2.2.2.2) (fun (k_ : Nat) (z_ : Nat × (List PT) × Int × Int × Int) => L42a.N k p k_ z_.1 z_.2.1 z_.2.2.1 z_.2.2.2.1 z_.2.2.2.2) L42a.E (L42a.X k p) (L42a.XH k p) k_ z_ e_ T_ h_
theorem L42a.nx (k : Nat) (p : Nat → PD) {k_ : Nat} {z_ : Nat × (List PT) × Int × Int × Int} {h_ : AHeap} (s_ : Nat × (List PT) × Int × Int × Int) (h1 : L42a.inv k p s_.1 s_.2.1 s_.2.2.1 s_.2.2.2.1 s_.2.2.2.2) (h2 : L42a.mu k p s_.1 s_.2.1 s_.2.2.1 s_.2.2.2.1 s_.2.2.2.2 < L42a.mu k p z_.1 z_.2.1 z_.2.2.1 z_.2.2.2.1 z_.2.2.2.2) (h3 : L42a.N k p k_ s_.1 s_.2.1 s_.2.2.1 s_.2.2.2.1 s_.2.2.2.2 = L42a.N k p (k_ + 1) z_.1 z_.2.1 z_.2.2.1 z_.2.2.2.1 z_.2.2.2.2) (h4 : PopOk (L42a.H k p z_.1 z_.2.1 z_.2.2.1 z_.2.2.2.1 z_.2.2.2.2) h_ (L42a.T k p s_.1 s_.2.1 s_.2.2.1 s_.2.2.2.1 s_.2.2.2.2) (L42a.H k p s_.1 s_.2.1 s_.2.2.1 s_.2.2.2.1 s_.2.2.2.2)) : LNextP (fun (z_ : Nat × (List PT) × Int × Int × Int) => L42a.T k p z_.1 z_.2.1 z_.2.2.1 z_.2.2.2.1 z_.2.2.2.2) (fun (z_ : Nat × (List PT) × Int × Int × Int) => L42a.H k p z_.1 z_.2.1 z_.2.2.1 z_.2.2.2.1 z_.2.2.2.2) (fun (z_ : Nat × (List PT) × Int × Int × Int) => L42a.inv k p z_.1 z_.2.1 z_.2.2.1 z_.2.2.2.1 z_.2.2.2.2) (fun (z_ : Nat × (List PT) × Int × Int × Int) => L42a.mu k p z_.1 z_.2.1 z_.2.2.1 z_.2.2.2.1 z_.2.2.2.2) (fun (k_ : Nat) (z_ : Nat × (List PT) × Int × Int × Int) => L42a.N k p k_ z_.1 z_.2.1 z_.2.2.1 z_.2.2.2.1 z_.2.2.2.2) k_ z_ (L42a.T k p s_.1 s_.2.1 s_.2.2.1 s_.2.2.2.1 s_.2.2.2.2) h_ := LNextP.mk (Tm := (fun (z_ : Nat × (List PT) × Int × Int × Int) => L42a.T k p z_.1 z_.2.1 z_.2.2.1 z_.2.2.2.1 z_.2.2.2.2)) (Hp := (fun (z_ : Nat × (List PT) × Int × Int × Int) => L42a.H k p z_.1 z_.2.1 z_.2.2.1 z_.2.2.2.1 z_.2.2.2.2)) (inv := (fun (z_ : Nat × (List PT) × Int × Int × Int) => L42a.inv k p z_.1 z_.2.1 z_.2.2.1 z_.2.2.2.1 z_.2.2.2.2)) (mu := (fun (z_ : Nat × (List PT) × Int × Int × Int) => L42a.mu k p z_.1 z_.2.1 z_.2.2.1 z_.2.2.2.1 z_.2.2.2.2)) (l := (fun (k_ : Nat) (z_ : Nat × (List PT) × Int × Int × Int) => L42a.N k p k_ z_.1 z_.2.1 z_.2.2.1 z_.2.2.2.1 z_.2.2.2.2)) s_ h1 h2 h3 h4
theorem L42a.en (k : Nat) (p : Nat → PD) {k_ : Nat} {z_ : Nat × (List PT) × Int × Int × Int} {h_ : AHeap} (o_ : L42a.O) (h3 : L42a.N k p (k_ + 1) z_.1 z_.2.1 z_.2.2.1 z_.2.2.2.1 z_.2.2.2.2 = o_) (h4 : PopOk (L42a.H k p z_.1 z_.2.1 z_.2.2.1 z_.2.2.2.1 z_.2.2.2.2) h_ (L42a.X k p o_) (L42a.XH k p o_)) : LEndP (fun (z_ : Nat × (List PT) × Int × Int × Int) => L42a.H k p z_.1 z_.2.1 z_.2.2.1 z_.2.2.2.1 z_.2.2.2.2) (fun (k_ : Nat) (z_ : Nat × (List PT) × Int × Int × Int) => L42a.N k p k_ z_.1 z_.2.1 z_.2.2.1 z_.2.2.2.1 z_.2.2.2.2) L42a.E (L42a.X k p) (L42a.XH k p) k_ z_ (L42a.E o_) (L42a.X k p o_) h_ := LEndP.mk (Hp := (fun (z_ : Nat × (List PT) × Int × Int × Int) => L42a.H k p z_.1 z_.2.1 z_.2.2.1 z_.2.2.2.1 z_.2.2.2.2)) (l := (fun (k_ : Nat) (z_ : Nat × (List PT) × Int × Int × Int) => L42a.N k p k_ z_.1 z_.2.1 z_.2.2.1 z_.2.2.2.1 z_.2.2.2.2)) (oE := L42a.E) (oT := L42a.X k p) (oH := L42a.XH k p) o_ h3 h4
theorem L42a.spec (k : Nat) (p : Nat → PD) (hk : k ≤ 30) (k_ : Nat) (z_ : Nat × (List PT) × Int × Int × Int) (hi_ : L42a.inv k p z_.1 z_.2.1 z_.2.2.1 z_.2.2.2.1 z_.2.2.2.2) (hm_ : L42a.mu k p z_.1 z_.2.1 z_.2.2.1 z_.2.2.2.1 z_.2.2.2.2 < k_) : LoopTo Try.prog (loopN Try.f42 0) (L42a.T k p z_.1 z_.2.1 z_.2.2.1 z_.2.2.2.1 z_.2.2.2.2) (L42a.H k p z_.1 z_.2.1 z_.2.2.1 z_.2.2.2.1 z_.2.2.2.2) (L42a.E (L42a.N k p k_ z_.1 z_.2.1 z_.2.2.1 z_.2.2.2.1 z_.2.2.2.2)) (L42a.X k p (L42a.N k p k_ z_.1 z_.2.1 z_.2.2.1 z_.2.2.2.1 z_.2.2.2.2)) (L42a.XH k p (L42a.N k p k_ z_.1 z_.2.1 z_.2.2.1 z_.2.2.2.1 z_.2.2.2.2)) := by
  refine LoopTo.fuelP mix (fun (z_ : Nat × (List PT) × Int × Int × Int) => L42a.T k p z_.1 z_.2.1 z_.2.2.1 z_.2.2.2.1 z_.2.2.2.2) (fun (z_ : Nat × (List PT) × Int × Int × Int) => L42a.H k p z_.1 z_.2.1 z_.2.2.1 z_.2.2.2.1 z_.2.2.2.2) (fun (z_ : Nat × (List PT) × Int × Int × Int) => L42a.inv k p z_.1 z_.2.1 z_.2.2.1 z_.2.2.2.1 z_.2.2.2.2) (fun (z_ : Nat × (List PT) × Int × Int × Int) => L42a.mu k p z_.1 z_.2.1 z_.2.2.1 z_.2.2.2.1 z_.2.2.2.2) (fun (k_ : Nat) (z_ : Nat × (List PT) × Int × Int × Int) => L42a.N k p k_ z_.1 z_.2.1 z_.2.2.1 z_.2.2.2.1 z_.2.2.2.2) L42a.E (L42a.X k p) (L42a.XH k p) (others 31 [3, 4, 9, 10, 11]) (others 31 [2]) (others 31 [3]) ?_ k_ z_ hi_ hm_
  clear hm_ hi_ z_ k_
  intro k_ z_ hinv hmu
  obtain ⟨av3, al3, a11, ao1_0, ao1_1⟩ := z_
  have hinv : 0 ≤ a11 ∧ (a11 ≤ (↑k : Int) ∨ a11 ≤ 0) ∧ (↑al3.length : Int) ≤ a11 - 0 := hinv
  have hmu : (((↑k : Int) - a11).toNat) < k_ + 1 := hmu
  cases h1 : decide (a11 < (↑k : Int)) with
  | true =>
    have h1p := of_decide_eq_true h1
    have o0 : (0 : Int) ≤ a11 := by first | assumption | omega | (simp_all; done)
    have o1 : a11 < (↑k : Int) := by first | assumption | omega | (simp_all; done)
    have o2 : ((List.map PT.av al3).length + (1 : Nat)) * (24 : Nat) ≤ (140737488355328 : Nat) := by first | assumption | omega | (simp only [List.length_append, List.length_cons, List.length_nil, List.length_map]; omega) | (simp_all; done)
    have o3 : (List.map PT.av al3).length = (Col.recs (List.map PT.av al3)).len := by first | assumption | omega | (simp only [List.length_append, List.length_cons, List.length_nil, List.length_map]; omega) | rfl | (exact Nat.le_refl _) | (simp [Col.len]; done) | (simp_all; done)
    try have := IntWalk.i64_in (a11 + 1) (by omega)
    have o4 : (0 : Int) ≤ IntKind.i64.wrap (a11 + (1 : Int)) := by first | assumption | omega | (simp_all; done)
    have o5 : IntKind.i64.wrap (a11 + (1 : Int)) ≤ (↑k : Int) ∨ IntKind.i64.wrap (a11 + (1 : Int)) ≤ (0 : Int) := by first | assumption | omega | (simp_all; done)
    try have := IntWalk.i64_in ((p a11.toNat).hi - ao1_1) (by omega)
    have o6 : (↑(PT.mk ao1_0 (p a11.toNat).lo (IntKind.i64.wrap ((p a11.toNat).hi - ao1_1)) :: al3).length : Int) ≤ IntKind.i64.wrap (a11 + (1 : Int)) - (0 : Int) := by first | assumption | omega | (simp only [List.length_append, List.length_cons, List.length_nil, List.length_map]; omega) | (simp_all; done)
    have o7 : ((↑k : Int) - IntKind.i64.wrap (a11 + (1 : Int))).toNat < ((↑k : Int) - a11).toNat := by first | assumption | omega | (simp_all; done)
    exact ⟨[.b true, .app .one false], kmp (by kernel_rfl) (And.intro h1 (And.intro (And.intro o0 o1) (And.intro (And.intro (show (3 : Nat) = (3 : Nat) by first | decide | exact Int.NonNeg.mk _) (And.intro (show AppMode.one.needs 1 fun (a : Nat) => (Col.ofList [AV.agg [AV.int IntKind.i64 ao1_0, AV.int IntKind.i64 (p a11.toNat).lo, AV.int IntKind.i64 (IntKind.i64.wrap ((p a11.toNat).hi - ao1_1))]]).get a by first | exact ⟨rfl, rfl⟩ | simp [AppMode.needs]) (And.intro o2 (And.intro (rfl : av3 = av3) (And.intro (show (0 : Nat) = (0 : Nat) by first | decide | exact Int.NonNeg.mk _) o3))))) (L42a.nx k p (k_ := k_) (z_ := (av3, al3, a11, ao1_0, ao1_1)) (h_ := [AObj.dead, AObj.var (AV.agg [AV.int IntKind.i64 (p a11.toNat).lo, AV.int IntKind.i64 (p a11.toNat).hi]), AObj.row 3 (av3 + 1) (Col.recs (AV.agg [AV.int IntKind.i64 ao1_0, AV.int IntKind.i64 (p a11.toNat).lo, AV.int IntKind.i64 (IntKind.i64.wrap ((p a11.toNat).hi - ao1_1))] :: List.map PT.av al3)), AObj.var (AV.agg [AV.int IntKind.i64 (p a11.toNat).lo, AV.int IntKind.i64 (p a11.toNat).hi])]) ((av3 + 1, PT.mk ao1_0 (p a11.toNat).lo (IntKind.i64.wrap ((p a11.toNat).hi - ao1_1)) :: al3, IntKind.i64.wrap (a11 + 1), (p a11.toNat).lo, (p a11.toNat).hi)) (And.intro o4 (And.intro o5 o6)) o7 (by first | (simp only [L42a.N, h1, cond_true, cond_false]; done) | (try unfold L42a.N; try simp only [h1, cond_true, cond_false]; try rfl; done)) (PopOk.popLow _ rfl rfl (by simp [L42a.T, L42a.X, L42a.H, L42a.XH]) (by simp [L42a.T, L42a.X, L42a.H, L42a.XH]))))))⟩
  | false =>
    have h1p := of_decide_eq_false h1
    exact ⟨[.b false], kmp (by kernel_rfl) (And.intro h1 (L42a.en k p (k_ := k_) (z_ := (av3, al3, a11, ao1_0, ao1_1)) (.e0 (av3) (al3) (ao1_0) (ao1_1) : L42a.O) (by first | (simp only [L42a.N, h1, cond_true, cond_false]; done) | (try unfold L42a.N; try simp only [h1, cond_true, cond_false]; try rfl; done)) PopOk.same))⟩
theorem L42a.e0 (k : Nat) (p : Nat → PD) (hk : k ≤ 30) (av3 : Nat) (al3 : List PT) (a11 : Int) (ao1_0 : Int) (ao1_1 : Int) (hinv : L42a.inv k p av3 al3 a11 ao1_0 ao1_1) (a0 : Nat) (a1 : List PT) (a2 : Int) (a3 : Int) (hN : L42a.run k p av3 al3 a11 ao1_0 ao1_1 = (.e0 a0 a1 a2 a3 : L42a.O)) : LoopTo Try.prog (loopN Try.f42 0) (L42a.T k p av3 al3 a11 ao1_0 ao1_1) (L42a.H k p av3 al3 a11 ao1_0 ao1_1) (Exit.exit 0) (L42a.X k p (.e0 a0 a1 a2 a3 : L42a.O)) (L42a.XH k p (.e0 a0 a1 a2 a3 : L42a.O)) := by
  have h_ := L42a.spec k p hk ((((↑k : Int) - a11).toNat) + 1) (av3, al3, a11, ao1_0, ao1_1) hinv (Nat.lt_succ_self _)
  unfold L42a.run at hN
  simp only [hN] at h_
  exact h_
theorem L42a.len0_1 (k : Nat) (p : Nat → PD) : ∀ (m_ : Nat) (av3 : Nat) (al3 : List PT) (a11 : Int) (ao1_0 : Int) (ao1_1 : Int) (a0_ : Nat) (a1_ : List PT) (a2_ : Int) (a3_ : Int), L42a.N k p m_ av3 al3 a11 ao1_0 ao1_1 = (.e0 a0_ a1_ a2_ a3_ : L42a.O) → (a1_).length ≤ (al3).length + m_ := by
  intro m_
  induction m_ with
  | zero =>
    intro av3 al3 a11 ao1_0 ao1_1 a0_ a1_ a2_ a3_ h_
    simp only [L42a.N] at h_
    cases h_
    exact Nat.zero_le _
  | succ m_ ih_ =>
    intro av3 al3 a11 ao1_0 ao1_1 a0_ a1_ a2_ a3_ h_
    cases h1 : decide (a11 < (↑k : Int)) with
    | true =>
      have h1p := of_decide_eq_true h1
      (simp only [L42a.N, h1, cond_true, cond_false] at h_; first | (have := ih_ _ _ _ _ _ _ _ _ _ h_; simp only [List.length_append, List.length_cons, List.length_nil] at this; omega) | (cases h_; done) | (cases h_; omega))
    | false =>
      have h1p := of_decide_eq_false h1
      (simp only [L42a.N, h1, cond_true, cond_false] at h_; first | (have := ih_ _ _ _ _ _ _ _ _ _ h_; simp only [List.length_append, List.length_cons, List.length_nil] at this; omega) | (cases h_; done) | (cases h_; omega))
theorem L42a.lenR0_1 (k : Nat) (p : Nat → PD) {av3 : Nat} {al3 : List PT} {a11 : Int} {ao1_0 : Int} {ao1_1 : Int} {a0_ : Nat} {a1_ : List PT} {a2_ : Int} {a3_ : Int} (h_ : L42a.run k p av3 al3 a11 ao1_0 ao1_1 = (.e0 a0_ a1_ a2_ a3_ : L42a.O)) : (a1_).length ≤ (al3).length + ((((↑k : Int) - a11).toNat) + 1) := L42a.len0_1 k p _ av3 al3 a11 ao1_0 ao1_1 a0_ a1_ a2_ a3_ h_

noncomputable def r42.v (k : Nat) (p : Nat → PD) : List PT := (match L42a.run k p 0 [] 0 0 0 with | .e0 h1d0 h1d1 h1d2 h1d3 => h1d1 )
theorem r42_ (n : Nat) (g : Nat → PD) (j1 : Int) (j2 : Int) (k : Nat) (p : Nat → PD) (hk : k ≤ 30) (h : AHeap) : Ret Try.prog 42 ([rn n g j1 j2 k p]) h (avRecs 3 (List.map PT.av (r42.v k p))) h := by
  have o0 : k ≤ (30 : Nat) := by first | assumption | omega | (simp_all; done)
  have o1 : (0 : Int) ≤ (↑k : Int) ∨ (0 : Int) ≤ (0 : Int) := by first | assumption | omega | (simp_all; done)
  cases h1 : L42a.run k p 0 [] 0 0 0 with
  | e0 h1d0 h1d1 h1d2 h1d3 =>
    try have := L42a.lenR0_1 _ _ (by assumption); (try simp only [List.length_nil] at this)
    have o2 : (0 : Nat) + (List.map PT.av h1d1).length ≤ (Col.recs (List.map PT.av h1d1)).len := by first | assumption | omega | (simp only [List.length_append, List.length_cons, List.length_nil, List.length_map]; omega) | rfl | (exact Nat.le_refl _) | (simp [Col.len]; done) | (simp_all; done)
    exact Ret.of_run1 mix [(avRecs 3 (List.map PT.av (r42.v k p)))] Try.func42 rfl [.virt [0] [(none, 3, 3, Col.recs [])], .loop (others 31 [3, 4, 9, 10, 11]) (Exit.exit 0) (L42a.X k p (L42a.O.e0 h1d0 h1d1 h1d2 h1d3)) (L42a.XH k p (L42a.O.e0 h1d0 h1d1 h1d2 h1d3))] (by simp) (by simp) (kmp (by kernel_rfl) (And.intro (And.intro (rfl : AV.snil = AV.snil) (And.intro (rfl : (0 : Nat) = 0) trivial)) (And.intro (L42a.e0 (k) (p) o0 (0) ([]) (0) (0) (0) (And.intro (show (0 : Int) ≤ (0 : Int) by first | decide | exact Int.NonNeg.mk _) (And.intro o1 (show (0 : Int) ≤ (0 : Int) by first | decide | exact Int.NonNeg.mk _))) h1d0 h1d1 h1d2 h1d3 h1) (And.intro (And.intro (rfl : h1d0 = h1d0) (And.intro (show (3 : Nat) = (3 : Nat) by first | decide | exact Int.NonNeg.mk _) (And.intro o2 (show ((avRecs 3 (List.map PT.av h1d1))) = ((avRecs 3 (List.map PT.av (r42.v k p)))) by first | (simp only [r42.v, h1, cond_true, cond_false]; done) | (try unfold r42.v; try simp only [h1, cond_true, cond_false]; try rfl; done) | rfl)))) trivial)))) h
theorem r42 (n : Nat) (g : Nat → PD) (j1 : Int) (j2 : Int) (k : Nat) (p : Nat → PD) (hk : k ≤ 30) (h : AHeap) : Ret Try.prog 42 ([rn n g j1 j2 k p]) h (recL 3 PT.av (r42.v k p)) h := (r42_ n g j1 j2 k p hk h).out imp_recL

inductive L21a.O where
  | e0
  | e1
noncomputable def L21a.T (n : Nat) (f : Nat → Int) (m : Nat) (g : Nat → Int) (a5 : Int) : List AV := mkT 26 [(0, AV.sl 1 n fun (i : Nat) => AV.int IntKind.i64 (f i)), (1, AV.sl 1 m fun (i : Nat) => AV.int IntKind.i64 (g i)), (5, AV.int IntKind.i64 a5)]
noncomputable def L21a.H (n : Nat) (f : Nat → Int) (m : Nat) (g : Nat → Int) (a5 : Int) : AHeap := []
def L21a.inv (n : Nat) (f : Nat → Int) (m : Nat) (g : Nat → Int) (a5 : Int) : Prop := 0 ≤ a5 ∧ (a5 ≤ (↑n : Int) ∨ a5 ≤ 0)
noncomputable def L21a.mu (n : Nat) (f : Nat → Int) (m : Nat) (g : Nat → Int) (a5 : Int) : Nat := ((↑n : Int) - a5).toNat
noncomputable def L21a.E : L21a.O → Exit
  | .e0 => Exit.ret
  | .e1 => Exit.exit 0
noncomputable def L21a.X (n : Nat) (f : Nat → Int) (m : Nat) (g : Nat → Int) : L21a.O → List AV
  | .e0 => mkT 26 [(4, (AV.bool false))]
  | .e1 => mkT 26 []
noncomputable def L21a.XH (n : Nat) (f : Nat → Int) (m : Nat) (g : Nat → Int) : L21a.O → AHeap
  | .e0 => ([])
  | .e1 => ([])
noncomputable def L21a.N (n : Nat) (f : Nat → Int) (g : Nat → Int) : Nat → Int → L21a.O
  | 0, _ => .e0
  | k_ + 1, a5 => (bif decide (a5 < (↑n : Int)) then (bif f a5.toNat == g a5.toNat then (L21a.N n f g k_ (IntKind.i64.wrap (a5 + 1))) else (.e0)) else (.e1))
noncomputable def L21a.run (n : Nat) (f : Nat → Int) (g : Nat → Int) (a5 : Int) : L21a.O := L21a.N n f g ((((↑n : Int) - a5).toNat) + 1) a5
def L21a.Next (n : Nat) (f : Nat → Int) (m : Nat) (g : Nat → Int) (k_ : Nat) (z_ : Int) (T_ : List AV) (h_ : AHeap) : Prop := LNextP (fun (z_ : Int) => L21a.T n f m g z_) (fun (z_ : Int) => L21a.H n f m g z_) (fun (z_ : Int) => L21a.inv n f m g z_) (fun (z_ : Int) => L21a.mu n f m g z_) (fun (k_ : Nat) (z_ : Int) => L21a.N n f g k_ z_) k_ z_ T_ h_
def L21a.End (n : Nat) (f : Nat → Int) (m : Nat) (g : Nat → Int) (k_ : Nat) (z_ : Int) (e_ : Exit) (T_ : List AV) (h_ : AHeap) : Prop := LEndP (fun (z_ : Int) => L21a.H n f m g z_) (fun (k_ : Nat) (z_ : Int) => L21a.N n f g k_ z_) L21a.E (L21a.X n f m g) (L21a.XH n f m g) k_ z_ e_ T_ h_
theorem L21a.nx (n : Nat) (f : Nat → Int) (m : Nat) (g : Nat → Int) {k_ : Nat} {z_ : Int} {h_ : AHeap} (s_ : Int) (h1 : L21a.inv n f m g s_) (h2 : L21a.mu n f m g s_ < L21a.mu n f m g z_) (h3 : L21a.N n f g k_ s_ = L21a.N n f g (k_ + 1) z_) (h4 : PopOk (L21a.H n f m g z_) h_ (L21a.T n f m g s_) (L21a.H n f m g s_)) : LNextP (fun (z_ : Int) => L21a.T n f m g z_) (fun (z_ : Int) => L21a.H n f m g z_) (fun (z_ : Int) => L21a.inv n f m g z_) (fun (z_ : Int) => L21a.mu n f m g z_) (fun (k_ : Nat) (z_ : Int) => L21a.N n f g k_ z_) k_ z_ (L21a.T n f m g s_) h_ := LNextP.mk (Tm := (fun (z_ : Int) => L21a.T n f m g z_)) (Hp := (fun (z_ : Int) => L21a.H n f m g z_)) (inv := (fun (z_ : Int) => L21a.inv n f m g z_)) (mu := (fun (z_ : Int) => L21a.mu n f m g z_)) (l := (fun (k_ : Nat) (z_ : Int) => L21a.N n f g k_ z_)) s_ h1 h2 h3 h4
theorem L21a.en (n : Nat) (f : Nat → Int) (m : Nat) (g : Nat → Int) {k_ : Nat} {z_ : Int} {h_ : AHeap} (o_ : L21a.O) (h3 : L21a.N n f g (k_ + 1) z_ = o_) (h4 : PopOk (L21a.H n f m g z_) h_ (L21a.X n f m g o_) (L21a.XH n f m g o_)) : LEndP (fun (z_ : Int) => L21a.H n f m g z_) (fun (k_ : Nat) (z_ : Int) => L21a.N n f g k_ z_) L21a.E (L21a.X n f m g) (L21a.XH n f m g) k_ z_ (L21a.E o_) (L21a.X n f m g o_) h_ := LEndP.mk (Hp := (fun (z_ : Int) => L21a.H n f m g z_)) (l := (fun (k_ : Nat) (z_ : Int) => L21a.N n f g k_ z_)) (oE := L21a.E) (oT := L21a.X n f m g) (oH := L21a.XH n f m g) o_ h3 h4
theorem L21a.spec (n : Nat) (f : Nat → Int) (m : Nat) (g : Nat → Int) (hn : n ≤ 9223372036854775807) (k0_1 : ((↑n : Int) == (↑m : Int)) = true) (p0_1 : (↑n : Int) = (↑m : Int)) (k_ : Nat) (z_ : Int) (hi_ : L21a.inv n f m g z_) (hm_ : L21a.mu n f m g z_ < k_) : LoopTo Try.prog (loopN Try.f21 0) (L21a.T n f m g z_) (L21a.H n f m g z_) (L21a.E (L21a.N n f g k_ z_)) (L21a.X n f m g (L21a.N n f g k_ z_)) (L21a.XH n f m g (L21a.N n f g k_ z_)) := by
  refine LoopTo.fuelP mix (fun (z_ : Int) => L21a.T n f m g z_) (fun (z_ : Int) => L21a.H n f m g z_) (fun (z_ : Int) => L21a.inv n f m g z_) (fun (z_ : Int) => L21a.mu n f m g z_) (fun (k_ : Nat) (z_ : Int) => L21a.N n f g k_ z_) L21a.E (L21a.X n f m g) (L21a.XH n f m g) (others 26 [0, 1, 5]) (others 26 [4]) (others 26 []) ?_ k_ z_ hi_ hm_
  clear hm_ hi_ z_ k_
  intro k_ z_ hinv hmu
  revert hinv hmu; revert z_; intro a5 hinv hmu
  have hinv : 0 ≤ a5 ∧ (a5 ≤ (↑n : Int) ∨ a5 ≤ 0) := hinv
  have hmu : (((↑n : Int) - a5).toNat) < k_ + 1 := hmu
  cases h1 : decide (a5 < (↑n : Int)) with
  | true =>
    have h1p := of_decide_eq_true h1
    have o0 : (0 : Int) ≤ a5 := by first | assumption | omega | (simp_all; done)
    have o1 : a5 < (↑n : Int) := by first | assumption | omega | (simp_all; done)
    have o2 : a5 < (↑m : Int) := by first | assumption | omega | (simp_all; done)
    cases h2 : f a5.toNat == g a5.toNat with
    | true =>
      have h2p := eq_of_beq h2
      try have := IntWalk.i64_in (a5 + 1) (by omega)
      have o3 : (0 : Int) ≤ IntKind.i64.wrap (a5 + (1 : Int)) := by first | assumption | omega | (simp_all; done)
      have o4 : IntKind.i64.wrap (a5 + (1 : Int)) ≤ (↑n : Int) ∨ IntKind.i64.wrap (a5 + (1 : Int)) ≤ (0 : Int) := by first | assumption | omega | (simp_all; done)
      have o5 : ((↑n : Int) - IntKind.i64.wrap (a5 + (1 : Int))).toNat < ((↑n : Int) - a5).toNat := by first | assumption | omega | (simp_all; done)
      exact ⟨[.b true, .b false], kmp (by kernel_rfl) (And.intro h1 (And.intro (And.intro o0 o1) (And.intro (And.intro o0 o2) (And.intro (show (bnot (f a5.toNat == g a5.toNat)) = false by rw [h2]; try rfl) (L21a.nx n f m g (k_ := k_) (z_ := a5) (IntKind.i64.wrap (a5 + 1)) (And.intro o3 o4) o5 (by first | (simp only [L21a.N, h1, h2, cond_true, cond_false]; done) | (try unfold L21a.N; try simp only [h1, cond_true, cond_false]; try simp only [h2, cond_true, cond_false]; try rfl; done)) PopOk.same)))))⟩
    | false =>
      have h2p := ne_of_beq_false h2
      exact ⟨[.b true, .b true], kmp (by kernel_rfl) (And.intro h1 (And.intro (And.intro o0 o1) (And.intro (And.intro o0 o2) (And.intro (show (bnot (f a5.toNat == g a5.toNat)) = true by rw [h2]; try rfl) (L21a.en n f m g (k_ := k_) (z_ := a5) (.e0 : L21a.O) (by first | (simp only [L21a.N, h1, h2, cond_true, cond_false]; done) | (try unfold L21a.N; try simp only [h1, cond_true, cond_false]; try simp only [h2, cond_true, cond_false]; try rfl; done)) PopOk.same)))))⟩
  | false =>
    have h1p := of_decide_eq_false h1
    exact ⟨[.b false], kmp (by kernel_rfl) (And.intro h1 (L21a.en n f m g (k_ := k_) (z_ := a5) (.e1 : L21a.O) (by first | (simp only [L21a.N, h1, cond_true, cond_false]; done) | (try unfold L21a.N; try simp only [h1, cond_true, cond_false]; try rfl; done)) PopOk.same))⟩
theorem L21a.e0 (n : Nat) (f : Nat → Int) (m : Nat) (g : Nat → Int) (hn : n ≤ 9223372036854775807) (k0_1 : ((↑n : Int) == (↑m : Int)) = true) (p0_1 : (↑n : Int) = (↑m : Int)) (a5 : Int) (hinv : L21a.inv n f m g a5) (hN : L21a.run n f g a5 = (.e0 : L21a.O)) : LoopTo Try.prog (loopN Try.f21 0) (L21a.T n f m g a5) (L21a.H n f m g a5) (Exit.ret) (L21a.X n f m g (.e0 : L21a.O)) (L21a.XH n f m g (.e0 : L21a.O)) := by
  have h_ := L21a.spec n f m g hn k0_1 p0_1 ((((↑n : Int) - a5).toNat) + 1) a5 hinv (Nat.lt_succ_self _)
  unfold L21a.run at hN
  simp only [hN] at h_
  exact h_
theorem L21a.e1 (n : Nat) (f : Nat → Int) (m : Nat) (g : Nat → Int) (hn : n ≤ 9223372036854775807) (k0_1 : ((↑n : Int) == (↑m : Int)) = true) (p0_1 : (↑n : Int) = (↑m : Int)) (a5 : Int) (hinv : L21a.inv n f m g a5) (hN : L21a.run n f g a5 = (.e1 : L21a.O)) : LoopTo Try.prog (loopN Try.f21 0) (L21a.T n f m g a5) (L21a.H n f m g a5) (Exit.exit 0) (L21a.X n f m g (.e1 : L21a.O)) (L21a.XH n f m g (.e1 : L21a.O)) := by
  have h_ := L21a.spec n f m g hn k0_1 p0_1 ((((↑n : Int) - a5).toNat) + 1) a5 hinv (Nat.lt_succ_self _)
  unfold L21a.run at hN
  simp only [hN] at h_
  exact h_

noncomputable def r21.v (n : Nat) (f : Nat → Int) (m : Nat) (g : Nat → Int) : Bool := (bif (↑n : Int) == (↑m : Int) then (match L21a.run n f g 0 with | .e0 => false | .e1 => true ) else false)
theorem r21 (n : Nat) (f : Nat → Int) (m : Nat) (g : Nat → Int) (hn : n ≤ 9223372036854775807) (h : AHeap) : Ret Try.prog 21 ([AV.sl 1 n fun (i : Nat) => AV.int IntKind.i64 (f i), AV.sl 1 m fun (i : Nat) => AV.int IntKind.i64 (g i)]) h (AV.bool (r21.v n f m g)) h := by
  cases h1 : (↑n : Int) == (↑m : Int) with
  | true =>
    have h1p := eq_of_beq h1
    have o0 : n ≤ (9223372036854775807 : Nat) := by first | assumption | omega | (simp_all; done)
    have o1 : ((↑n : Int) == (↑m : Int)) = true := by first | assumption | omega | (simp_all; done)
    have o2 : (↑n : Int) = (↑m : Int) := by first | assumption | omega | (simp_all; done)
    have o3 : (0 : Int) ≤ (↑n : Int) ∨ (0 : Int) ≤ (0 : Int) := by first | assumption | omega | (simp_all; done)
    cases h2 : L21a.run n f g 0 with
    | e0 =>
      exact Ret.of_run1 mix [(AV.bool (r21.v n f m g))] Try.func21 rfl [.b false, .loop (others 26 [0, 1, 5]) (Exit.ret) (L21a.X n f m g L21a.O.e0) (L21a.XH n f m g L21a.O.e0)] (by simp) (by simp) (kmp (by kernel_rfl) (And.intro (show (bnot ((↑n : Int) == (↑m : Int))) = false by rw [h1]; try rfl) (And.intro (L21a.e0 (n) (f) (m) (g) o0 o1 o2 (0) (And.intro (show (0 : Int) ≤ (0 : Int) by first | decide | exact Int.NonNeg.mk _) o3) h2) (And.intro (show (AV.bool false) = ((AV.bool (r21.v n f m g))) by first | (simp only [r21.v, h1, h2, cond_true, cond_false]; done) | (try unfold r21.v; try simp only [h1, cond_true, cond_false]; try simp only [h2, cond_true, cond_false]; try rfl; done) | rfl) trivial)))) h
    | e1 =>
      exact Ret.of_run1 mix [(AV.bool (r21.v n f m g))] Try.func21 rfl [.b false, .loop (others 26 [0, 1, 5]) (Exit.exit 0) (L21a.X n f m g L21a.O.e1) (L21a.XH n f m g L21a.O.e1)] (by simp) (by simp) (kmp (by kernel_rfl) (And.intro (show (bnot ((↑n : Int) == (↑m : Int))) = false by rw [h1]; try rfl) (And.intro (L21a.e1 (n) (f) (m) (g) o0 o1 o2 (0) (And.intro (show (0 : Int) ≤ (0 : Int) by first | decide | exact Int.NonNeg.mk _) o3) h2) (And.intro (show (AV.bool true) = ((AV.bool (r21.v n f m g))) by first | (simp only [r21.v, h1, h2, cond_true, cond_false]; done) | (try unfold r21.v; try simp only [h1, cond_true, cond_false]; try simp only [h2, cond_true, cond_false]; try rfl; done) | rfl) trivial)))) h
  | false =>
    have h1p := ne_of_beq_false h1
    exact Ret.of_run1 mix [(AV.bool (r21.v n f m g))] Try.func21 rfl [.b true] (by simp) (by simp) (kmp (by kernel_rfl) (And.intro (show (bnot ((↑n : Int) == (↑m : Int))) = true by rw [h1]; try rfl) (And.intro (show (AV.bool false) = ((AV.bool (r21.v n f m g))) by first | (simp only [r21.v, h1, cond_true, cond_false]; done) | (try unfold r21.v; try simp only [h1, cond_true, cond_false]; try rfl; done) | rfl) trivial))) h

end Go.Proofs.Ytjdakdjgkpfjkaa
