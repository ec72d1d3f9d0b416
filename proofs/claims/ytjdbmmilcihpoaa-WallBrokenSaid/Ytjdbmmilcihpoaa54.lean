/- WallBroken: whatever the input, the law hands back true. Conditions: none. -/
import Derived.Test.Ytjdbmmilcihpoaa53

open Go
namespace Go.Proofs.Ytjdbmmilcihpoaa
set_option linter.unusedSimpArgs false
set_option linter.unusedVariables false
set_option maxHeartbeats 0
set_option maxRecDepth 100000
def zero3 : AObj := AObj.var (AV.agg [AV.int .i64 0, AV.int .i64 0, AV.int .i64 0])
theorem cor30 {w : WD} (hn : w.n ≤ 10000) (c : Int) : (r30.v w c).length ≤ 10000 := by
  have := cor_le hn c
  rw [r30_v hn, jts_len]
  omega
inductive L23c.O where
  | e0 (a0 : Int)
  | e1
noncomputable def L23c.T (w : WD) (U : List Int) (D : List Int) (k : Int) (i : Int) (m : Int) : List AV := mkT 56 [(1, AV.ptr 0 1 6 0 0), (2, AV.ptr 1 1 3 0 0), (4, AV.int IntKind.i64 k), (5, avInts IntKind.i64 U), (6, avInts IntKind.i64 D), (7, AV.int IntKind.i64 i), (8, AV.int IntKind.i64 m)]
noncomputable def L23c.H (w : WD) (U : List Int) (D : List Int) (k : Int) (i : Int) (m : Int) : AHeap := [AObj.var w.av, zero3]
def L23c.inv (w : WD) (U : List Int) (D : List Int) (k : Int) (i : Int) (m : Int) : Prop := 0 ≤ m ∧ m ≤ (↑D.length : Int)
noncomputable def L23c.mu (w : WD) (U : List Int) (D : List Int) (k : Int) (i : Int) (m : Int) : Nat := ((↑D.length : Int) - m).toNat
noncomputable def L23c.E : L23c.O → Exit
  | .e0 a0 => Exit.ret
  | .e1 => Exit.exit 4
noncomputable def L23c.X (w : WD) (U : List Int) (D : List Int) (k : Int) (i : Int) : L23c.O → List AV
  | .e0 a0 => mkT 56 [(2, (AV.ptr 1 1 3 0 0)), (3, (AV.bool true))]
  | .e1 => mkT 56 [(1, (AV.ptr 0 1 6 0 0)), (2, (AV.ptr 1 1 3 0 0)), (4, (AV.int IntKind.i64 k)), (5, (AV.sl 1 U.length fun (a : Nat) => AV.int IntKind.i64 (U.getD a 0))), (6, (AV.sl 1 D.length fun (a : Nat) => AV.int IntKind.i64 (D.getD a 0))), (7, (AV.int IntKind.i64 i))]
noncomputable def L23c.XH (w : WD) (U : List Int) (D : List Int) (k : Int) (i : Int) : L23c.O → AHeap
  | .e0 a0 => ((AObj.var (WD.av w)) :: ((AObj.var (AV.agg ((AV.int IntKind.i64 k) :: ((AV.int IntKind.i64 (U.getD i.toNat 0)) :: ((AV.int IntKind.i64 a0) :: ([])))))) :: ([])))
  | .e1 => ([AObj.var (WD.av w), AObj.var (AV.agg [AV.int IntKind.i64 0, AV.int IntKind.i64 0, AV.int IntKind.i64 0])])
noncomputable def L23c.N (w : WD) (U : List Int) (D : List Int) (i : Int) : Nat → Int → L23c.O
  | 0, _ => .e0 default
  | k_ + 1, m => (bif decide (m < (↑D.length : Int)) then (bif r47.v (U.getD i.toNat 0) (D.getD m.toNat 0) w.lap then (.e0 (D.getD m.toNat 0)) else (L23c.N w U D i k_ (IntKind.i64.wrap (m + 1)))) else (.e1))
noncomputable def L23c.run (w : WD) (U : List Int) (D : List Int) (i : Int) (m : Int) : L23c.O := L23c.N w U D i ((((↑D.length : Int) - m).toNat) + 1) m
theorem L23c.nx (w : WD) (U : List Int) (D : List Int) (k : Int) (i : Int) {k_ : Nat} {z_ : Int} {h_ : AHeap} (s_ : Int) (h1 : L23c.inv w U D k i s_) (h2 : L23c.mu w U D k i s_ < L23c.mu w U D k i z_) (h3 : L23c.N w U D i k_ s_ = L23c.N w U D i (k_ + 1) z_) (h4 : PopOk (L23c.H w U D k i z_) h_ (L23c.T w U D k i s_) (L23c.H w U D k i s_)) : LNextP (fun (z_ : Int) => L23c.T w U D k i z_) (fun (z_ : Int) => L23c.H w U D k i z_) (fun (z_ : Int) => L23c.inv w U D k i z_) (fun (z_ : Int) => L23c.mu w U D k i z_) (fun (k_ : Nat) (z_ : Int) => L23c.N w U D i k_ z_) k_ z_ (L23c.T w U D k i s_) h_ := LNextP.mk (Tm := (fun (z_ : Int) => L23c.T w U D k i z_)) (Hp := (fun (z_ : Int) => L23c.H w U D k i z_)) (inv := (fun (z_ : Int) => L23c.inv w U D k i z_)) (mu := (fun (z_ : Int) => L23c.mu w U D k i z_)) (l := (fun (k_ : Nat) (z_ : Int) => L23c.N w U D i k_ z_)) s_ h1 h2 h3 h4
theorem L23c.en (w : WD) (U : List Int) (D : List Int) (k : Int) (i : Int) {k_ : Nat} {z_ : Int} {h_ : AHeap} (o_ : L23c.O) (h3 : L23c.N w U D i (k_ + 1) z_ = o_) (h4 : PopOk (L23c.H w U D k i z_) h_ (L23c.X w U D k i o_) (L23c.XH w U D k i o_)) : LEndP (fun (z_ : Int) => L23c.H w U D k i z_) (fun (k_ : Nat) (z_ : Int) => L23c.N w U D i k_ z_) L23c.E (L23c.X w U D k i) (L23c.XH w U D k i) k_ z_ (L23c.E o_) (L23c.X w U D k i o_) h_ := LEndP.mk (Hp := (fun (z_ : Int) => L23c.H w U D k i z_)) (l := (fun (k_ : Nat) (z_ : Int) => L23c.N w U D i k_ z_)) (oE := L23c.E) (oT := L23c.X w U D k i) (oH := L23c.XH w U D k i) o_ h3 h4
noncomputable abbrev L23c.h0 (w : WD) (U : List Int) (D : List Int) (k : Int) (i : Int) (m : Int) : AHeap := ([AObj.var (WD.av w), AObj.var (AV.agg [AV.int IntKind.i64 0, AV.int IntKind.i64 0, AV.int IntKind.i64 0])])
theorem L23c.spec (w : WD) (U : List Int) (D : List Int) (hd : D.length ≤ 10000) (k : Int) (i : Int) (hi0 : 0 ≤ i) (hi : i < (↑U.length : Int)) (k_ : Nat) (z_ : Int) (hi_ : L23c.inv w U D k i z_) (hm_ : L23c.mu w U D k i z_ < k_) : LoopTo Try.prog (loopN Try.f23 2) (L23c.T w U D k i z_) (L23c.H w U D k i z_) (L23c.E (L23c.N w U D i k_ z_)) (L23c.X w U D k i (L23c.N w U D i k_ z_)) (L23c.XH w U D k i (L23c.N w U D i k_ z_)) := by
  refine LoopTo.fuelP mix (fun (z_ : Int) => L23c.T w U D k i z_) (fun (z_ : Int) => L23c.H w U D k i z_) (fun (z_ : Int) => L23c.inv w U D k i z_) (fun (z_ : Int) => L23c.mu w U D k i z_) (fun (k_ : Nat) (z_ : Int) => L23c.N w U D i k_ z_) L23c.E (L23c.X w U D k i) (L23c.XH w U D k i) (others 56 [1, 2, 4, 5, 6, 7, 8]) (others 56 [2, 3]) (others 56 [1, 2, 4, 5, 6, 7]) ?_ k_ z_ hi_ hm_
  clear hm_ hi_ z_ k_
  intro k_ z_ hinv hmu
  revert hinv hmu; revert z_; intro m hinv hmu
  have hinv : 0 ≤ m ∧ m ≤ (↑D.length : Int) := hinv
  have hmu : (((↑D.length : Int) - m).toNat) < k_ + 1 := hmu
  cases h1 : decide (m < (↑D.length : Int)) with
  | true =>
    have h1p := of_decide_eq_true h1
    have o0 : (0 : Int) ≤ i := by assumption
    have o1 : i < (↑U.length : Int) := by assumption
    have o2 : (0 : Int) ≤ m := by omega
    have o3 : m < (↑D.length : Int) := by assumption
    cases h2 : r47.v (U.getD i.toNat 0) (D.getD m.toNat 0) w.lap with
    | true =>
      exact ⟨[.b true, .ret (AV.bool (r47.v (U.getD i.toNat 0) (D.getD m.toNat 0) w.lap)) (L23c.h0 w U D k i m), .b true], kmp (by kernel_rfl) (Ai h1 (Ai (Ai o0 o1) (Ai (Ai o2 o3) (Ai (r47 (U.getD i.toNat 0) (D.getD m.toNat 0) (w.lap) (L23c.h0 w U D k i m)) (Ai h2 (Ai (Ai o0 o1) (Ai (Ai o2 o3) (L23c.en w U D k i (k_ := k_) (z_ := m) (.e0 (D.getD m.toNat 0) : L23c.O) (by simp only [L23c.N, h1, h2, cond_true, cond_false]) PopOk.same))))))))⟩
    | false =>
      try have := IntWalk.i64_in (m + 1) (by omega)
      have o4 : (0 : Int) ≤ IntKind.i64.wrap (m + (1 : Int)) := by omega
      have o5 : IntKind.i64.wrap (m + (1 : Int)) ≤ (↑D.length : Int) := by omega
      have o6 : ((↑D.length : Int) - IntKind.i64.wrap (m + (1 : Int))).toNat < ((↑D.length : Int) - m).toNat := by omega
      exact ⟨[.b true, .ret (AV.bool (r47.v (U.getD i.toNat 0) (D.getD m.toNat 0) w.lap)) (L23c.h0 w U D k i m), .b false], kmp (by kernel_rfl) (Ai h1 (Ai (Ai o0 o1) (Ai (Ai o2 o3) (Ai (r47 (U.getD i.toNat 0) (D.getD m.toNat 0) (w.lap) (L23c.h0 w U D k i m)) (Ai h2 (L23c.nx w U D k i (k_ := k_) (z_ := m) (IntKind.i64.wrap (m + 1)) (Ai o4 o5) o6 (by simp only [L23c.N, h1, h2, cond_true, cond_false]) PopOk.same))))))⟩
  | false =>
    have h1p := of_decide_eq_false h1
    exact ⟨[.b false], kmp (by kernel_rfl) (Ai h1 (L23c.en w U D k i (k_ := k_) (z_ := m) (.e1 : L23c.O) (by simp only [L23c.N, h1, cond_true, cond_false]) PopOk.same))⟩
theorem L23c.e0 (w : WD) (U : List Int) (D : List Int) (hd : D.length ≤ 10000) (k : Int) (i : Int) (hi0 : 0 ≤ i) (hi : i < (↑U.length : Int)) (m : Int) (hinv : L23c.inv w U D k i m) (a0 : Int) (hN : L23c.run w U D i m = (.e0 a0 : L23c.O)) : LoopTo Try.prog (loopN Try.f23 2) (L23c.T w U D k i m) (L23c.H w U D k i m) (Exit.ret) (L23c.X w U D k i (.e0 a0 : L23c.O)) (L23c.XH w U D k i (.e0 a0 : L23c.O)) := by
  have h_ := L23c.spec w U D hd k i hi0 hi ((((↑D.length : Int) - m).toNat) + 1) m hinv (Nat.lt_succ_self _)
  unfold L23c.run at hN
  simp only [hN] at h_
  exact h_
theorem L23c.e1 (w : WD) (U : List Int) (D : List Int) (hd : D.length ≤ 10000) (k : Int) (i : Int) (hi0 : 0 ≤ i) (hi : i < (↑U.length : Int)) (m : Int) (hinv : L23c.inv w U D k i m) (hN : L23c.run w U D i m = (.e1 : L23c.O)) : LoopTo Try.prog (loopN Try.f23 2) (L23c.T w U D k i m) (L23c.H w U D k i m) (Exit.exit 4) (L23c.X w U D k i (.e1 : L23c.O)) (L23c.XH w U D k i (.e1 : L23c.O)) := by
  have h_ := L23c.spec w U D hd k i hi0 hi ((((↑D.length : Int) - m).toNat) + 1) m hinv (Nat.lt_succ_self _)
  unfold L23c.run at hN
  simp only [hN] at h_
  exact h_
inductive L23b.O where
  | e0 (a0 : Int) (a1 : Int)
  | e1
noncomputable def L23b.T (w : WD) (U : List Int) (D : List Int) (k : Int) (i : Int) : List AV := mkT 56 [(1, AV.ptr 0 1 6 0 0), (2, AV.ptr 1 1 3 0 0), (4, AV.int IntKind.i64 k), (5, avInts IntKind.i64 U), (6, avInts IntKind.i64 D), (7, AV.int IntKind.i64 i)]
noncomputable def L23b.H (w : WD) (U : List Int) (D : List Int) (k : Int) (i : Int) : AHeap := [AObj.var w.av, zero3]
def L23b.inv (w : WD) (U : List Int) (D : List Int) (k : Int) (i : Int) : Prop := 0 ≤ i ∧ i ≤ (↑U.length : Int)
noncomputable def L23b.mu (w : WD) (U : List Int) (D : List Int) (k : Int) (i : Int) : Nat := ((↑U.length : Int) - i).toNat
noncomputable def L23b.E : L23b.O → Exit
  | .e0 a0 a1 => Exit.ret
  | .e1 => Exit.exit 2
noncomputable def L23b.X (w : WD) (U : List Int) (D : List Int) (k : Int) : L23b.O → List AV
  | .e0 a0 a1 => mkT 56 [(2, (AV.ptr 1 1 3 0 0)), (3, (AV.bool true))]
  | .e1 => mkT 56 [(1, (AV.ptr 0 1 6 0 0)), (2, (AV.ptr 1 1 3 0 0)), (4, (AV.int IntKind.i64 k))]
noncomputable def L23b.XH (w : WD) (U : List Int) (D : List Int) (k : Int) : L23b.O → AHeap
  | .e0 a0 a1 => ((AObj.var (WD.av w)) :: ((AObj.var (AV.agg ((AV.int IntKind.i64 k) :: ((AV.int IntKind.i64 a0) :: ((AV.int IntKind.i64 a1) :: ([])))))) :: ([])))
  | .e1 => ([AObj.var (WD.av w), AObj.var (AV.agg [AV.int IntKind.i64 0, AV.int IntKind.i64 0, AV.int IntKind.i64 0])])
noncomputable def L23b.N (w : WD) (U : List Int) (D : List Int) : Nat → Int → L23b.O
  | 0, _ => .e0 default default
  | k_ + 1, i => (bif decide (i < (↑U.length : Int)) then (match L23c.run w U D i 0 with | .e0 h2d0 => (.e0 (U.getD i.toNat 0) (h2d0)) | .e1 => (L23b.N w U D k_ (IntKind.i64.wrap (i + 1))) ) else (.e1))
noncomputable def L23b.run (w : WD) (U : List Int) (D : List Int) (i : Int) : L23b.O := L23b.N w U D ((((↑U.length : Int) - i).toNat) + 1) i
theorem L23b.nx (w : WD) (U : List Int) (D : List Int) (k : Int) {k_ : Nat} {z_ : Int} {h_ : AHeap} (s_ : Int) (h1 : L23b.inv w U D k s_) (h2 : L23b.mu w U D k s_ < L23b.mu w U D k z_) (h3 : L23b.N w U D k_ s_ = L23b.N w U D (k_ + 1) z_) (h4 : PopOk (L23b.H w U D k z_) h_ (L23b.T w U D k s_) (L23b.H w U D k s_)) : LNextP (fun (z_ : Int) => L23b.T w U D k z_) (fun (z_ : Int) => L23b.H w U D k z_) (fun (z_ : Int) => L23b.inv w U D k z_) (fun (z_ : Int) => L23b.mu w U D k z_) (fun (k_ : Nat) (z_ : Int) => L23b.N w U D k_ z_) k_ z_ (L23b.T w U D k s_) h_ := LNextP.mk (Tm := (fun (z_ : Int) => L23b.T w U D k z_)) (Hp := (fun (z_ : Int) => L23b.H w U D k z_)) (inv := (fun (z_ : Int) => L23b.inv w U D k z_)) (mu := (fun (z_ : Int) => L23b.mu w U D k z_)) (l := (fun (k_ : Nat) (z_ : Int) => L23b.N w U D k_ z_)) s_ h1 h2 h3 h4
theorem L23b.en (w : WD) (U : List Int) (D : List Int) (k : Int) {k_ : Nat} {z_ : Int} {h_ : AHeap} (o_ : L23b.O) (h3 : L23b.N w U D (k_ + 1) z_ = o_) (h4 : PopOk (L23b.H w U D k z_) h_ (L23b.X w U D k o_) (L23b.XH w U D k o_)) : LEndP (fun (z_ : Int) => L23b.H w U D k z_) (fun (k_ : Nat) (z_ : Int) => L23b.N w U D k_ z_) L23b.E (L23b.X w U D k) (L23b.XH w U D k) k_ z_ (L23b.E o_) (L23b.X w U D k o_) h_ := LEndP.mk (Hp := (fun (z_ : Int) => L23b.H w U D k z_)) (l := (fun (k_ : Nat) (z_ : Int) => L23b.N w U D k_ z_)) (oE := L23b.E) (oT := L23b.X w U D k) (oH := L23b.XH w U D k) o_ h3 h4
theorem L23b.spec (w : WD) (U : List Int) (D : List Int) (hu : U.length ≤ 10000) (hd : D.length ≤ 10000) (k : Int) (k_ : Nat) (z_ : Int) (hi_ : L23b.inv w U D k z_) (hm_ : L23b.mu w U D k z_ < k_) : LoopTo Try.prog (loopN Try.f23 1) (L23b.T w U D k z_) (L23b.H w U D k z_) (L23b.E (L23b.N w U D k_ z_)) (L23b.X w U D k (L23b.N w U D k_ z_)) (L23b.XH w U D k (L23b.N w U D k_ z_)) := by
  refine LoopTo.fuelP mix (fun (z_ : Int) => L23b.T w U D k z_) (fun (z_ : Int) => L23b.H w U D k z_) (fun (z_ : Int) => L23b.inv w U D k z_) (fun (z_ : Int) => L23b.mu w U D k z_) (fun (k_ : Nat) (z_ : Int) => L23b.N w U D k_ z_) L23b.E (L23b.X w U D k) (L23b.XH w U D k) (others 56 [1, 2, 4, 5, 6, 7]) (others 56 [2, 3]) (others 56 [1, 2, 4]) ?_ k_ z_ hi_ hm_
  clear hm_ hi_ z_ k_
  intro k_ z_ hinv hmu
  revert hinv hmu; revert z_; intro i hinv hmu
  have hinv : 0 ≤ i ∧ i ≤ (↑U.length : Int) := hinv
  have hmu : (((↑U.length : Int) - i).toNat) < k_ + 1 := hmu
  cases h1 : decide (i < (↑U.length : Int)) with
  | true =>
    have h1p := of_decide_eq_true h1
    have o0 : D.length ≤ (10000 : Nat) := by assumption
    have o1 : (0 : Int) ≤ i := by omega
    have o2 : i < (↑U.length : Int) := by assumption
    have o3 : (0 : Int) ≤ (↑D.length : Int) := by omega
    cases h2 : L23c.run w U D i 0 with
    | e0 h2d0 =>
      exact ⟨[.b true, .loop (others 56 [1, 2, 4, 5, 6, 7, 8]) (Exit.ret) (L23c.X w U D k i (L23c.O.e0 h2d0)) (L23c.XH w U D k i (L23c.O.e0 h2d0))], kmp (by kernel_rfl) (Ai h1 (Ai (L23c.e0 (w) (U) (D) o0 (k) (i) o1 o2 (0) (Ai (show (0 : Int) ≤ (0 : Int) by decide) o3) h2d0 h2) (L23b.en w U D k (k_ := k_) (z_ := i) (.e0 (U.getD i.toNat 0) (h2d0) : L23b.O) (by simp only [L23b.N, h1, h2, cond_true, cond_false]) PopOk.same)))⟩
    | e1 =>
      try have := IntWalk.i64_in (i + 1) (by omega)
      have o4 : (0 : Int) ≤ IntKind.i64.wrap (i + (1 : Int)) := by omega
      have o5 : IntKind.i64.wrap (i + (1 : Int)) ≤ (↑U.length : Int) := by omega
      have o6 : ((↑U.length : Int) - IntKind.i64.wrap (i + (1 : Int))).toNat < ((↑U.length : Int) - i).toNat := by omega
      exact ⟨[.b true, .loop (others 56 [1, 2, 4, 5, 6, 7, 8]) (Exit.exit 4) (L23c.X w U D k i L23c.O.e1) (L23c.XH w U D k i L23c.O.e1)], kmp (by kernel_rfl) (Ai h1 (Ai (L23c.e1 (w) (U) (D) o0 (k) (i) o1 o2 (0) (Ai (show (0 : Int) ≤ (0 : Int) by decide) o3) h2) (L23b.nx w U D k (k_ := k_) (z_ := i) (IntKind.i64.wrap (i + 1)) (Ai o4 o5) o6 (by simp only [L23b.N, h1, h2, cond_true, cond_false]) PopOk.same)))⟩
  | false =>
    have h1p := of_decide_eq_false h1
    exact ⟨[.b false], kmp (by kernel_rfl) (Ai h1 (L23b.en w U D k (k_ := k_) (z_ := i) (.e1 : L23b.O) (by simp only [L23b.N, h1, cond_true, cond_false]) PopOk.same))⟩
theorem L23b.e0 (w : WD) (U : List Int) (D : List Int) (hu : U.length ≤ 10000) (hd : D.length ≤ 10000) (k : Int) (i : Int) (hinv : L23b.inv w U D k i) (a0 : Int) (a1 : Int) (hN : L23b.run w U D i = (.e0 a0 a1 : L23b.O)) : LoopTo Try.prog (loopN Try.f23 1) (L23b.T w U D k i) (L23b.H w U D k i) (Exit.ret) (L23b.X w U D k (.e0 a0 a1 : L23b.O)) (L23b.XH w U D k (.e0 a0 a1 : L23b.O)) := by
  have h_ := L23b.spec w U D hu hd k ((((↑U.length : Int) - i).toNat) + 1) i hinv (Nat.lt_succ_self _)
  unfold L23b.run at hN
  simp only [hN] at h_
  exact h_
theorem L23b.e1 (w : WD) (U : List Int) (D : List Int) (hu : U.length ≤ 10000) (hd : D.length ≤ 10000) (k : Int) (i : Int) (hinv : L23b.inv w U D k i) (hN : L23b.run w U D i = (.e1 : L23b.O)) : LoopTo Try.prog (loopN Try.f23 1) (L23b.T w U D k i) (L23b.H w U D k i) (Exit.exit 2) (L23b.X w U D k (.e1 : L23b.O)) (L23b.XH w U D k (.e1 : L23b.O)) := by
  have h_ := L23b.spec w U D hu hd k ((((↑U.length : Int) - i).toNat) + 1) i hinv (Nat.lt_succ_self _)
  unfold L23b.run at hN
  simp only [hN] at h_
  exact h_
inductive L23a.O where
  | e0 (a0 : Int) (a1 : Int) (a2 : Int)
  | e1
noncomputable def L23a.T (w : WD) (k : Int) : List AV := mkT 56 [(1, AV.ptr 0 1 6 0 0), (2, AV.ptr 1 1 3 0 0), (4, AV.int IntKind.i64 k)]
noncomputable def L23a.H (w : WD) (k : Int) : AHeap := [AObj.var w.av, zero3]
def L23a.inv (w : WD) (k : Int) : Prop := 1 ≤ k ∧ k ≤ 100
noncomputable def L23a.mu (w : WD) (k : Int) : Nat := (100 - k).toNat
noncomputable def L23a.E : L23a.O → Exit
  | .e0 a0 a1 a2 => Exit.ret
  | .e1 => Exit.exit 0
noncomputable def L23a.X (w : WD) : L23a.O → List AV
  | .e0 a0 a1 a2 => mkT 56 [(2, (AV.ptr 1 1 3 0 0)), (3, (AV.bool true))]
  | .e1 => mkT 56 [(2, (AV.ptr 1 1 3 0 0))]
noncomputable def L23a.XH (w : WD) : L23a.O → AHeap
  | .e0 a0 a1 a2 => ((AObj.var (WD.av w)) :: ((AObj.var (AV.agg ((AV.int IntKind.i64 a0) :: ((AV.int IntKind.i64 a1) :: ((AV.int IntKind.i64 a2) :: ([])))))) :: ([])))
  | .e1 => ([AObj.var (WD.av w), AObj.var (AV.agg [AV.int IntKind.i64 0, AV.int IntKind.i64 0, AV.int IntKind.i64 0])])
noncomputable def L23a.N (w : WD) : Nat → Int → L23a.O
  | 0, k => .e0 k default default
  | k_ + 1, k => (bif decide (k ≤ r41.v w) then (match L23b.run w (r30.v w k) (r30.v w (IntKind.i64.wrap (k - 1))) 0 with | .e0 h2d0 h2d1 => (.e0 (k) (h2d0) (h2d1)) | .e1 => (L23a.N w k_ (IntKind.i64.wrap (k + 1))) ) else (.e1))
noncomputable def L23a.run (w : WD) (k : Int) : L23a.O := L23a.N w (((100 - k).toNat) + 1) k
theorem L23a.nx (w : WD) {k_ : Nat} {z_ : Int} {h_ : AHeap} (s_ : Int) (h1 : L23a.inv w s_) (h2 : L23a.mu w s_ < L23a.mu w z_) (h3 : L23a.N w k_ s_ = L23a.N w (k_ + 1) z_) (h4 : PopOk (L23a.H w z_) h_ (L23a.T w s_) (L23a.H w s_)) : LNextP (fun (z_ : Int) => L23a.T w z_) (fun (z_ : Int) => L23a.H w z_) (fun (z_ : Int) => L23a.inv w z_) (fun (z_ : Int) => L23a.mu w z_) (fun (k_ : Nat) (z_ : Int) => L23a.N w k_ z_) k_ z_ (L23a.T w s_) h_ := LNextP.mk (Tm := (fun (z_ : Int) => L23a.T w z_)) (Hp := (fun (z_ : Int) => L23a.H w z_)) (inv := (fun (z_ : Int) => L23a.inv w z_)) (mu := (fun (z_ : Int) => L23a.mu w z_)) (l := (fun (k_ : Nat) (z_ : Int) => L23a.N w k_ z_)) s_ h1 h2 h3 h4
theorem L23a.en (w : WD) {k_ : Nat} {z_ : Int} {h_ : AHeap} (o_ : L23a.O) (h3 : L23a.N w (k_ + 1) z_ = o_) (h4 : PopOk (L23a.H w z_) h_ (L23a.X w o_) (L23a.XH w o_)) : LEndP (fun (z_ : Int) => L23a.H w z_) (fun (k_ : Nat) (z_ : Int) => L23a.N w k_ z_) L23a.E (L23a.X w) (L23a.XH w) k_ z_ (L23a.E o_) (L23a.X w o_) h_ := LEndP.mk (Hp := (fun (z_ : Int) => L23a.H w z_)) (l := (fun (k_ : Nat) (z_ : Int) => L23a.N w k_ z_)) (oE := L23a.E) (oT := L23a.X w) (oH := L23a.XH w) o_ h3 h4
noncomputable abbrev L23a.h0 (w : WD) (k : Int) : AHeap := ([AObj.var (WD.av w), AObj.var (AV.agg [AV.int IntKind.i64 0, AV.int IntKind.i64 0, AV.int IntKind.i64 0])])
theorem L23a.spec (w : WD) (hn : w.n ≤ 10000) (ht : r41.v w ≤ 99) (k_ : Nat) (z_ : Int) (hi_ : L23a.inv w z_) (hm_ : L23a.mu w z_ < k_) : LoopTo Try.prog (loopN Try.f23 0) (L23a.T w z_) (L23a.H w z_) (L23a.E (L23a.N w k_ z_)) (L23a.X w (L23a.N w k_ z_)) (L23a.XH w (L23a.N w k_ z_)) := by
  refine LoopTo.fuelP mix (fun (z_ : Int) => L23a.T w z_) (fun (z_ : Int) => L23a.H w z_) (fun (z_ : Int) => L23a.inv w z_) (fun (z_ : Int) => L23a.mu w z_) (fun (k_ : Nat) (z_ : Int) => L23a.N w k_ z_) L23a.E (L23a.X w) (L23a.XH w) (others 56 [1, 2, 4]) (others 56 [2, 3]) (others 56 [2]) ?_ k_ z_ hi_ hm_
  clear hm_ hi_ z_ k_
  intro k_ z_ hinv hmu
  revert hinv hmu; revert z_; intro k hinv hmu
  have hinv : 1 ≤ k ∧ k ≤ 100 := hinv
  have hmu : ((100 - k).toNat) < k_ + 1 := hmu
  have o0 : w.n ≤ (10000 : Nat) := by assumption
  cases h1 : decide (k ≤ r41.v w) with
  | true =>
    have h1p := of_decide_eq_true h1
    have o1 : (r30.v w k).length ≤ (10000 : Nat) := by first | assumption | omega | (simp only [List.length_append, List.length_cons, List.length_nil, List.length_map]; omega) | (apply cor30 <;> first | assumption | omega) | (simp_all; done)
    try have := IntWalk.i64_in (k - 1) (by omega)
    have o2 : (r30.v w (IntKind.i64.wrap (k - (1 : Int)))).length ≤ (10000 : Nat) := by first | assumption | omega | (simp only [List.length_append, List.length_cons, List.length_nil, List.length_map]; omega) | (apply cor30 <;> first | assumption | omega) | (simp_all; done)
    have o3 : (0 : Int) ≤ (↑(r30.v w k).length : Int) := by omega
    cases h2 : L23b.run w (r30.v w k) (r30.v w (IntKind.i64.wrap (k - 1))) 0 with
    | e0 h2d0 h2d1 =>
      exact ⟨[.ret (AV.int IntKind.i64 (r41.v w)) (L23a.h0 w k), .b true, .ret (AV.sl 1 (r30.v w k).length fun (a : Nat) => AV.int IntKind.i64 ((r30.v w k).getD a 0)) (L23a.h0 w k), .ret (AV.sl 1 (r30.v w (IntKind.i64.wrap (k - 1))).length fun (a : Nat) => AV.int IntKind.i64 ((r30.v w (IntKind.i64.wrap (k - 1))).getD a 0)) (L23a.h0 w k), .loop (others 56 [1, 2, 4, 5, 6, 7]) (Exit.ret) (L23b.X w (r30.v w k) (r30.v w (IntKind.i64.wrap (k - 1))) k (L23b.O.e0 h2d0 h2d1)) (L23b.XH w (r30.v w k) (r30.v w (IntKind.i64.wrap (k - 1))) k (L23b.O.e0 h2d0 h2d1))], kmp (by kernel_rfl) (Ai (r41 (w) o0 (L23a.h0 w k)) (Ai h1 (Ai (r30 (w) o0 (k) (L23a.h0 w k)) (Ai (r30 (w) o0 (IntKind.i64.wrap (k - 1)) (L23a.h0 w k)) (Ai (L23b.e0 (w) (r30.v w k) (r30.v w (IntKind.i64.wrap (k - 1))) o1 o2 (k) (0) (Ai (show (0 : Int) ≤ (0 : Int) by decide) o3) h2d0 h2d1 h2) (L23a.en w (k_ := k_) (z_ := k) (.e0 (k) (h2d0) (h2d1) : L23a.O) (by simp only [L23a.N, h1, h2, cond_true, cond_false]) PopOk.same))))))⟩
    | e1 =>
      try have := IntWalk.i64_in (k + 1) (by omega)
      have o4 : (1 : Int) ≤ IntKind.i64.wrap (k + (1 : Int)) := by omega
      have o5 : IntKind.i64.wrap (k + (1 : Int)) ≤ (100 : Int) := by omega
      have o6 : ((100 : Int) - IntKind.i64.wrap (k + (1 : Int))).toNat < ((100 : Int) - k).toNat := by omega
      exact ⟨[.ret (AV.int IntKind.i64 (r41.v w)) (L23a.h0 w k), .b true, .ret (AV.sl 1 (r30.v w k).length fun (a : Nat) => AV.int IntKind.i64 ((r30.v w k).getD a 0)) (L23a.h0 w k), .ret (AV.sl 1 (r30.v w (IntKind.i64.wrap (k - 1))).length fun (a : Nat) => AV.int IntKind.i64 ((r30.v w (IntKind.i64.wrap (k - 1))).getD a 0)) (L23a.h0 w k), .loop (others 56 [1, 2, 4, 5, 6, 7]) (Exit.exit 2) (L23b.X w (r30.v w k) (r30.v w (IntKind.i64.wrap (k - 1))) k L23b.O.e1) (L23b.XH w (r30.v w k) (r30.v w (IntKind.i64.wrap (k - 1))) k L23b.O.e1)], kmp (by kernel_rfl) (Ai (r41 (w) o0 (L23a.h0 w k)) (Ai h1 (Ai (r30 (w) o0 (k) (L23a.h0 w k)) (Ai (r30 (w) o0 (IntKind.i64.wrap (k - 1)) (L23a.h0 w k)) (Ai (L23b.e1 (w) (r30.v w k) (r30.v w (IntKind.i64.wrap (k - 1))) o1 o2 (k) (0) (Ai (show (0 : Int) ≤ (0 : Int) by decide) o3) h2) (L23a.nx w (k_ := k_) (z_ := k) (IntKind.i64.wrap (k + 1)) (Ai o4 o5) o6 (by simp only [L23a.N, h1, h2, cond_true, cond_false]) PopOk.same))))))⟩
  | false =>
    have h1p := of_decide_eq_false h1
    exact ⟨[.ret (AV.int IntKind.i64 (r41.v w)) (L23a.h0 w k), .b false], kmp (by kernel_rfl) (Ai (r41 (w) o0 (L23a.h0 w k)) (Ai h1 (L23a.en w (k_ := k_) (z_ := k) (.e1 : L23a.O) (by simp only [L23a.N, h1, cond_true, cond_false]) PopOk.same)))⟩
theorem L23a.e0 (w : WD) (hn : w.n ≤ 10000) (ht : r41.v w ≤ 99) (k : Int) (hinv : L23a.inv w k) (a0 : Int) (a1 : Int) (a2 : Int) (hN : L23a.run w k = (.e0 a0 a1 a2 : L23a.O)) : LoopTo Try.prog (loopN Try.f23 0) (L23a.T w k) (L23a.H w k) (Exit.ret) (L23a.X w (.e0 a0 a1 a2 : L23a.O)) (L23a.XH w (.e0 a0 a1 a2 : L23a.O)) := by
  have h_ := L23a.spec w hn ht (((100 - k).toNat) + 1) k hinv (Nat.lt_succ_self _)
  unfold L23a.run at hN
  simp only [hN] at h_
  exact h_
theorem L23a.e1 (w : WD) (hn : w.n ≤ 10000) (ht : r41.v w ≤ 99) (k : Int) (hinv : L23a.inv w k) (hN : L23a.run w k = (.e1 : L23a.O)) : LoopTo Try.prog (loopN Try.f23 0) (L23a.T w k) (L23a.H w k) (Exit.exit 0) (L23a.X w (.e1 : L23a.O)) (L23a.XH w (.e1 : L23a.O)) := by
  have h_ := L23a.spec w hn ht (((100 - k).toNat) + 1) k hinv (Nat.lt_succ_self _)
  unfold L23a.run at hN
  simp only [hN] at h_
  exact h_
noncomputable def r23.v0 (w : WD) : Int := (match L23a.run w 1 with | .e0 h1d0 h1d1 h1d2 => h1d0 | .e1 => 0 )
noncomputable def r23.v1 (w : WD) : Int := (match L23a.run w 1 with | .e0 h1d0 h1d1 h1d2 => h1d1 | .e1 => 0 )
noncomputable def r23.v2 (w : WD) : Int := (match L23a.run w 1 with | .e0 h1d0 h1d1 h1d2 => h1d2 | .e1 => 0 )
noncomputable def r23.v3 (w : WD) : Bool := (match L23a.run w 1 with | .e0 h1d0 h1d1 h1d2 => true | .e1 => false )
theorem r23 (w : WD) (hn : w.n ≤ 10000) (ht : r41.v w ≤ 99) (h : AHeap) : Ret Try.prog 23 ([w.av]) h (AV.tup [(AV.agg ((AV.int IntKind.i64 (r23.v0 w)) :: ((AV.int IntKind.i64 (r23.v1 w)) :: ((AV.int IntKind.i64 (r23.v2 w)) :: [])))), (AV.bool (r23.v3 w))]) h := by
  have o0 : w.n ≤ (10000 : Nat) := by assumption
  have o1 : r41.v w ≤ (99 : Int) := by assumption
  cases h1 : L23a.run w 1 with
  | e0 h1d0 h1d1 h1d2 =>
    exact Ret.of_run1 mix [(AV.agg ((AV.int IntKind.i64 (r23.v0 w)) :: ((AV.int IntKind.i64 (r23.v1 w)) :: ((AV.int IntKind.i64 (r23.v2 w)) :: [])))), (AV.bool (r23.v3 w))] Try.func23 rfl [.loop (others 56 [1, 2, 4]) (Exit.ret) (L23a.X w (L23a.O.e0 h1d0 h1d1 h1d2)) (L23a.XH w (L23a.O.e0 h1d0 h1d1 h1d2))] (by simp) (by simp) (kmp (by kernel_rfl) (Ai (L23a.e0 (w) o0 o1 (1) (Ai (show (1 : Int) ≤ (1 : Int) by decide) (show (1 : Int) ≤ (100 : Int) by decide)) h1d0 h1d1 h1d2 h1) (Ai (Ai trivial (show (AV.agg [AV.int IntKind.i64 h1d0, AV.int IntKind.i64 h1d1, AV.int IntKind.i64 h1d2]) = ((AV.agg ((AV.int IntKind.i64 (r23.v0 w)) :: ((AV.int IntKind.i64 (r23.v1 w)) :: ((AV.int IntKind.i64 (r23.v2 w)) :: []))))) by simp only [r23.v0, r23.v1, r23.v2, r23.v3, h1, cond_true, cond_false])) (Ai (show (AV.bool true) = ((AV.bool (r23.v3 w))) by simp only [r23.v0, r23.v1, r23.v2, r23.v3, h1, cond_true, cond_false]) trivial)))) h
  | e1 =>
    exact Ret.of_run1 mix [(AV.agg ((AV.int IntKind.i64 (r23.v0 w)) :: ((AV.int IntKind.i64 (r23.v1 w)) :: ((AV.int IntKind.i64 (r23.v2 w)) :: [])))), (AV.bool (r23.v3 w))] Try.func23 rfl [.loop (others 56 [1, 2, 4]) (Exit.exit 0) (L23a.X w L23a.O.e1) (L23a.XH w L23a.O.e1)] (by simp) (by simp) (kmp (by kernel_rfl) (Ai (L23a.e1 (w) o0 o1 (1) (Ai (show (1 : Int) ≤ (1 : Int) by decide) (show (1 : Int) ≤ (100 : Int) by decide)) h1) (Ai (Ai trivial (show (AV.agg [AV.int IntKind.i64 0, AV.int IntKind.i64 0, AV.int IntKind.i64 0]) = ((AV.agg ((AV.int IntKind.i64 (r23.v0 w)) :: ((AV.int IntKind.i64 (r23.v1 w)) :: ((AV.int IntKind.i64 (r23.v2 w)) :: []))))) by simp only [r23.v0, r23.v1, r23.v2, r23.v3, h1, cond_true, cond_false])) (Ai (show (AV.bool false) = ((AV.bool (r23.v3 w))) by simp only [r23.v0, r23.v1, r23.v2, r23.v3, h1, cond_true, cond_false]) trivial)))) h
end Go.Proofs.Ytjdbmmilcihpoaa
open Go
namespace Go.Proofs.Ytjdbmmilcihpoaa
set_option linter.unusedSimpArgs false
set_option linter.unusedVariables false
set_option maxHeartbeats 0
set_option maxRecDepth 100000
end Go.Proofs.Ytjdbmmilcihpoaa
open Go
namespace Go.Proofs.Ytjdbmmilcihpoaa
set_option linter.unusedSimpArgs false
set_option linter.unusedVariables false
set_option maxHeartbeats 0
set_option maxRecDepth 100000
end Go.Proofs.Ytjdbmmilcihpoaa
open Go
namespace Go.Proofs.Ytjdbmmilcihpoaa
set_option linter.unusedSimpArgs false
set_option linter.unusedVariables false
set_option maxHeartbeats 0
set_option maxRecDepth 100000
inductive L20a.O where
  | e0
  | e1
noncomputable def L20a.T (w : WD) (a3 : Int) : List AV := mkT 41 [(1, AV.ptr 0 1 6 0 0), (3, AV.int IntKind.i64 a3)]
noncomputable def L20a.H (w : WD) (a3 : Int) : AHeap := [AObj.var (WD.av w)]
def L20a.inv (w : WD) (a3 : Int) : Prop := 0 ≤ a3 ∧ (a3 ≤ (↑w.n : Int) ∨ a3 ≤ 0)
noncomputable def L20a.mu (w : WD) (a3 : Int) : Nat := ((↑w.n : Int) - a3).toNat
noncomputable def L20a.E : L20a.O → Exit
  | .e0 => Exit.ret
  | .e1 => Exit.exit 0
noncomputable def L20a.X (w : WD) : L20a.O → List AV
  | .e0 => mkT 41 [(2, (AV.bool false))]
  | .e1 => mkT 41 []
noncomputable def L20a.XH (w : WD) : L20a.O → AHeap
  | .e0 => ([AObj.var (WD.av w)])
  | .e1 => ([AObj.var (WD.av w)])
noncomputable def L20a.N (w : WD) : Nat → Int → L20a.O
  | 0, _ => .e0
  | k_ + 1, a3 => (bif decide (a3 < (↑w.n : Int)) then (bif decide ((↑(w.g a3.toNat).nm.size : Int) > 100) then (.e0) else (L20a.N w k_ (IntKind.i64.wrap (a3 + 1)))) else (.e1))
noncomputable def L20a.run (w : WD) (a3 : Int) : L20a.O := L20a.N w ((((↑w.n : Int) - a3).toNat) + 1) a3
theorem L20a.nx (w : WD) {k_ : Nat} {z_ : Int} {h_ : AHeap} (s_ : Int) (h1 : L20a.inv w s_) (h2 : L20a.mu w s_ < L20a.mu w z_) (h3 : L20a.N w k_ s_ = L20a.N w (k_ + 1) z_) (h4 : PopOk (L20a.H w z_) h_ (L20a.T w s_) (L20a.H w s_)) : LNextP (fun (z_ : Int) => L20a.T w z_) (fun (z_ : Int) => L20a.H w z_) (fun (z_ : Int) => L20a.inv w z_) (fun (z_ : Int) => L20a.mu w z_) (fun (k_ : Nat) (z_ : Int) => L20a.N w k_ z_) k_ z_ (L20a.T w s_) h_ := LNextP.mk (Tm := (fun (z_ : Int) => L20a.T w z_)) (Hp := (fun (z_ : Int) => L20a.H w z_)) (inv := (fun (z_ : Int) => L20a.inv w z_)) (mu := (fun (z_ : Int) => L20a.mu w z_)) (l := (fun (k_ : Nat) (z_ : Int) => L20a.N w k_ z_)) s_ h1 h2 h3 h4
theorem L20a.en (w : WD) {k_ : Nat} {z_ : Int} {h_ : AHeap} (o_ : L20a.O) (h3 : L20a.N w (k_ + 1) z_ = o_) (h4 : PopOk (L20a.H w z_) h_ (L20a.X w o_) (L20a.XH w o_)) : LEndP (fun (z_ : Int) => L20a.H w z_) (fun (k_ : Nat) (z_ : Int) => L20a.N w k_ z_) L20a.E (L20a.X w) (L20a.XH w) k_ z_ (L20a.E o_) (L20a.X w o_) h_ := LEndP.mk (Hp := (fun (z_ : Int) => L20a.H w z_)) (l := (fun (k_ : Nat) (z_ : Int) => L20a.N w k_ z_)) (oE := L20a.E) (oT := L20a.X w) (oH := L20a.XH w) o_ h3 h4
theorem L20a.spec (w : WD) (hw : w.n ≤ 9223372036854775807) (k0_1 : decide ((↑w.n : Int) > 30) = true) (p0_1 : (↑w.n : Int) > 30) (k0_2 : decide ((↑w.n : Int) ≤ 512) = false) (p0_2 : ¬(↑w.n : Int) ≤ 512) (k0_3 : decide ((↑w.n : Int) > 520) = false) (p0_3 : ¬(↑w.n : Int) > 520) (k0_4 : decide ((↑w.nm.size : Int) > 100) = false) (p0_4 : ¬(↑w.nm.size : Int) > 100) (k_ : Nat) (z_ : Int) (hi_ : L20a.inv w z_) (hm_ : L20a.mu w z_ < k_) : LoopTo Try.prog (loopN Try.f20 0) (L20a.T w z_) (L20a.H w z_) (L20a.E (L20a.N w k_ z_)) (L20a.X w (L20a.N w k_ z_)) (L20a.XH w (L20a.N w k_ z_)) := by
  refine LoopTo.fuelP mix (fun (z_ : Int) => L20a.T w z_) (fun (z_ : Int) => L20a.H w z_) (fun (z_ : Int) => L20a.inv w z_) (fun (z_ : Int) => L20a.mu w z_) (fun (k_ : Nat) (z_ : Int) => L20a.N w k_ z_) L20a.E (L20a.X w) (L20a.XH w) (others 41 [1, 3]) (others 41 [2]) (others 41 []) ?_ k_ z_ hi_ hm_
  clear hm_ hi_ z_ k_
  intro k_ z_ hinv hmu
  revert hinv hmu; revert z_; intro a3 hinv hmu
  have hinv : 0 ≤ a3 ∧ (a3 ≤ (↑w.n : Int) ∨ a3 ≤ 0) := hinv
  have hmu : (((↑w.n : Int) - a3).toNat) < k_ + 1 := hmu
  cases h1 : decide (a3 < (↑w.n : Int)) with
  | true =>
    have h1p := of_decide_eq_true h1
    have o0 : (0 : Int) ≤ a3 := by omega
    have o1 : a3 < (↑w.n : Int) := by assumption
    cases h2 : decide ((↑(w.g a3.toNat).nm.size : Int) > 100) with
    | true =>
      have h2p := of_decide_eq_true h2
      exact ⟨[.b true, .b true], kmp (by kernel_rfl) (Ai h1 (Ai (Ai o0 o1) (Ai h2 (L20a.en w (k_ := k_) (z_ := a3) (.e0 : L20a.O) (by simp only [L20a.N, h1, h2, cond_true, cond_false]) PopOk.same))))⟩
    | false =>
      have h2p := of_decide_eq_false h2
      try have := IntWalk.i64_in (a3 + 1) (by omega)
      have o2 : (0 : Int) ≤ IntKind.i64.wrap (a3 + (1 : Int)) := by omega
      have o3 : IntKind.i64.wrap (a3 + (1 : Int)) ≤ (↑w.n : Int) ∨ IntKind.i64.wrap (a3 + (1 : Int)) ≤ (0 : Int) := by omega
      have o4 : ((↑w.n : Int) - IntKind.i64.wrap (a3 + (1 : Int))).toNat < ((↑w.n : Int) - a3).toNat := by omega
      exact ⟨[.b true, .b false], kmp (by kernel_rfl) (Ai h1 (Ai (Ai o0 o1) (Ai h2 (L20a.nx w (k_ := k_) (z_ := a3) (IntKind.i64.wrap (a3 + 1)) (Ai o2 o3) o4 (by simp only [L20a.N, h1, h2, cond_true, cond_false]) PopOk.same))))⟩
  | false =>
    have h1p := of_decide_eq_false h1
    exact ⟨[.b false], kmp (by kernel_rfl) (Ai h1 (L20a.en w (k_ := k_) (z_ := a3) (.e1 : L20a.O) (by simp only [L20a.N, h1, cond_true, cond_false]) PopOk.same))⟩
theorem L20a.e0 (w : WD) (hw : w.n ≤ 9223372036854775807) (k0_1 : decide ((↑w.n : Int) > 30) = true) (p0_1 : (↑w.n : Int) > 30) (k0_2 : decide ((↑w.n : Int) ≤ 512) = false) (p0_2 : ¬(↑w.n : Int) ≤ 512) (k0_3 : decide ((↑w.n : Int) > 520) = false) (p0_3 : ¬(↑w.n : Int) > 520) (k0_4 : decide ((↑w.nm.size : Int) > 100) = false) (p0_4 : ¬(↑w.nm.size : Int) > 100) (a3 : Int) (hinv : L20a.inv w a3) (hN : L20a.run w a3 = (.e0 : L20a.O)) : LoopTo Try.prog (loopN Try.f20 0) (L20a.T w a3) (L20a.H w a3) (Exit.ret) (L20a.X w (.e0 : L20a.O)) (L20a.XH w (.e0 : L20a.O)) := by
  have h_ := L20a.spec w hw k0_1 p0_1 k0_2 p0_2 k0_3 p0_3 k0_4 p0_4 ((((↑w.n : Int) - a3).toNat) + 1) a3 hinv (Nat.lt_succ_self _)
  unfold L20a.run at hN
  simp only [hN] at h_
  exact h_
theorem L20a.e1 (w : WD) (hw : w.n ≤ 9223372036854775807) (k0_1 : decide ((↑w.n : Int) > 30) = true) (p0_1 : (↑w.n : Int) > 30) (k0_2 : decide ((↑w.n : Int) ≤ 512) = false) (p0_2 : ¬(↑w.n : Int) ≤ 512) (k0_3 : decide ((↑w.n : Int) > 520) = false) (p0_3 : ¬(↑w.n : Int) > 520) (k0_4 : decide ((↑w.nm.size : Int) > 100) = false) (p0_4 : ¬(↑w.nm.size : Int) > 100) (a3 : Int) (hinv : L20a.inv w a3) (hN : L20a.run w a3 = (.e1 : L20a.O)) : LoopTo Try.prog (loopN Try.f20 0) (L20a.T w a3) (L20a.H w a3) (Exit.exit 0) (L20a.X w (.e1 : L20a.O)) (L20a.XH w (.e1 : L20a.O)) := by
  have h_ := L20a.spec w hw k0_1 p0_1 k0_2 p0_2 k0_3 p0_3 k0_4 p0_4 ((((↑w.n : Int) - a3).toNat) + 1) a3 hinv (Nat.lt_succ_self _)
  unfold L20a.run at hN
  simp only [hN] at h_
  exact h_
inductive L20ax.O where
  | e0
  | e1
noncomputable def L20ax.T (w : WD) (a3 : Int) : List AV := mkT 41 [(1, AV.ptr 0 1 6 0 0), (3, AV.int IntKind.i64 a3)]
noncomputable def L20ax.H (w : WD) (a3 : Int) : AHeap := [AObj.var (WD.av w)]
def L20ax.inv (w : WD) (a3 : Int) : Prop := 0 ≤ a3 ∧ (a3 ≤ (↑w.n : Int) ∨ a3 ≤ 0)
noncomputable def L20ax.mu (w : WD) (a3 : Int) : Nat := ((↑w.n : Int) - a3).toNat
noncomputable def L20ax.E : L20ax.O → Exit
  | .e0 => Exit.ret
  | .e1 => Exit.exit 0
noncomputable def L20ax.X (w : WD) : L20ax.O → List AV
  | .e0 => mkT 41 [(2, (AV.bool false))]
  | .e1 => mkT 41 []
noncomputable def L20ax.XH (w : WD) : L20ax.O → AHeap
  | .e0 => ([AObj.var (WD.av w)])
  | .e1 => ([AObj.var (WD.av w)])
noncomputable def L20ax.N (w : WD) : Nat → Int → L20ax.O
  | 0, _ => .e0
  | k_ + 1, a3 => (bif decide (a3 < (↑w.n : Int)) then (bif decide ((↑(w.g a3.toNat).nm.size : Int) > 100) then (.e0) else (L20ax.N w k_ (IntKind.i64.wrap (a3 + 1)))) else (.e1))
noncomputable def L20ax.run (w : WD) (a3 : Int) : L20ax.O := L20ax.N w ((((↑w.n : Int) - a3).toNat) + 1) a3
theorem L20ax.nx (w : WD) {k_ : Nat} {z_ : Int} {h_ : AHeap} (s_ : Int) (h1 : L20ax.inv w s_) (h2 : L20ax.mu w s_ < L20ax.mu w z_) (h3 : L20ax.N w k_ s_ = L20ax.N w (k_ + 1) z_) (h4 : PopOk (L20ax.H w z_) h_ (L20ax.T w s_) (L20ax.H w s_)) : LNextP (fun (z_ : Int) => L20ax.T w z_) (fun (z_ : Int) => L20ax.H w z_) (fun (z_ : Int) => L20ax.inv w z_) (fun (z_ : Int) => L20ax.mu w z_) (fun (k_ : Nat) (z_ : Int) => L20ax.N w k_ z_) k_ z_ (L20ax.T w s_) h_ := LNextP.mk (Tm := (fun (z_ : Int) => L20ax.T w z_)) (Hp := (fun (z_ : Int) => L20ax.H w z_)) (inv := (fun (z_ : Int) => L20ax.inv w z_)) (mu := (fun (z_ : Int) => L20ax.mu w z_)) (l := (fun (k_ : Nat) (z_ : Int) => L20ax.N w k_ z_)) s_ h1 h2 h3 h4
theorem L20ax.en (w : WD) {k_ : Nat} {z_ : Int} {h_ : AHeap} (o_ : L20ax.O) (h3 : L20ax.N w (k_ + 1) z_ = o_) (h4 : PopOk (L20ax.H w z_) h_ (L20ax.X w o_) (L20ax.XH w o_)) : LEndP (fun (z_ : Int) => L20ax.H w z_) (fun (k_ : Nat) (z_ : Int) => L20ax.N w k_ z_) L20ax.E (L20ax.X w) (L20ax.XH w) k_ z_ (L20ax.E o_) (L20ax.X w o_) h_ := LEndP.mk (Hp := (fun (z_ : Int) => L20ax.H w z_)) (l := (fun (k_ : Nat) (z_ : Int) => L20ax.N w k_ z_)) (oE := L20ax.E) (oT := L20ax.X w) (oH := L20ax.XH w) o_ h3 h4
theorem L20ax.spec (w : WD) (hw : w.n ≤ 9223372036854775807) (k0_1 : decide ((↑w.n : Int) > 30) = false) (p0_1 : ¬(↑w.n : Int) > 30) (k0_2 : decide ((↑w.nm.size : Int) > 100) = false) (p0_2 : ¬(↑w.nm.size : Int) > 100) (k_ : Nat) (z_ : Int) (hi_ : L20ax.inv w z_) (hm_ : L20ax.mu w z_ < k_) : LoopTo Try.prog (loopN Try.f20 0) (L20ax.T w z_) (L20ax.H w z_) (L20ax.E (L20ax.N w k_ z_)) (L20ax.X w (L20ax.N w k_ z_)) (L20ax.XH w (L20ax.N w k_ z_)) := by
  refine LoopTo.fuelP mix (fun (z_ : Int) => L20ax.T w z_) (fun (z_ : Int) => L20ax.H w z_) (fun (z_ : Int) => L20ax.inv w z_) (fun (z_ : Int) => L20ax.mu w z_) (fun (k_ : Nat) (z_ : Int) => L20ax.N w k_ z_) L20ax.E (L20ax.X w) (L20ax.XH w) (others 41 [1, 3]) (others 41 [2]) (others 41 []) ?_ k_ z_ hi_ hm_
  clear hm_ hi_ z_ k_
  intro k_ z_ hinv hmu
  revert hinv hmu; revert z_; intro a3 hinv hmu
  have hinv : 0 ≤ a3 ∧ (a3 ≤ (↑w.n : Int) ∨ a3 ≤ 0) := hinv
  have hmu : (((↑w.n : Int) - a3).toNat) < k_ + 1 := hmu
  cases h1 : decide (a3 < (↑w.n : Int)) with
  | true =>
    have h1p := of_decide_eq_true h1
    have o0 : (0 : Int) ≤ a3 := by omega
    have o1 : a3 < (↑w.n : Int) := by assumption
    cases h2 : decide ((↑(w.g a3.toNat).nm.size : Int) > 100) with
    | true =>
      have h2p := of_decide_eq_true h2
      exact ⟨[.b true, .b true], kmp (by kernel_rfl) (Ai h1 (Ai (Ai o0 o1) (Ai h2 (L20ax.en w (k_ := k_) (z_ := a3) (.e0 : L20ax.O) (by simp only [L20ax.N, h1, h2, cond_true, cond_false]) PopOk.same))))⟩
    | false =>
      have h2p := of_decide_eq_false h2
      try have := IntWalk.i64_in (a3 + 1) (by omega)
      have o2 : (0 : Int) ≤ IntKind.i64.wrap (a3 + (1 : Int)) := by omega
      have o3 : IntKind.i64.wrap (a3 + (1 : Int)) ≤ (↑w.n : Int) ∨ IntKind.i64.wrap (a3 + (1 : Int)) ≤ (0 : Int) := by omega
      have o4 : ((↑w.n : Int) - IntKind.i64.wrap (a3 + (1 : Int))).toNat < ((↑w.n : Int) - a3).toNat := by omega
      exact ⟨[.b true, .b false], kmp (by kernel_rfl) (Ai h1 (Ai (Ai o0 o1) (Ai h2 (L20ax.nx w (k_ := k_) (z_ := a3) (IntKind.i64.wrap (a3 + 1)) (Ai o2 o3) o4 (by simp only [L20ax.N, h1, h2, cond_true, cond_false]) PopOk.same))))⟩
  | false =>
    have h1p := of_decide_eq_false h1
    exact ⟨[.b false], kmp (by kernel_rfl) (Ai h1 (L20ax.en w (k_ := k_) (z_ := a3) (.e1 : L20ax.O) (by simp only [L20ax.N, h1, cond_true, cond_false]) PopOk.same))⟩
theorem L20ax.e0 (w : WD) (hw : w.n ≤ 9223372036854775807) (k0_1 : decide ((↑w.n : Int) > 30) = false) (p0_1 : ¬(↑w.n : Int) > 30) (k0_2 : decide ((↑w.nm.size : Int) > 100) = false) (p0_2 : ¬(↑w.nm.size : Int) > 100) (a3 : Int) (hinv : L20ax.inv w a3) (hN : L20ax.run w a3 = (.e0 : L20ax.O)) : LoopTo Try.prog (loopN Try.f20 0) (L20ax.T w a3) (L20ax.H w a3) (Exit.ret) (L20ax.X w (.e0 : L20ax.O)) (L20ax.XH w (.e0 : L20ax.O)) := by
  have h_ := L20ax.spec w hw k0_1 p0_1 k0_2 p0_2 ((((↑w.n : Int) - a3).toNat) + 1) a3 hinv (Nat.lt_succ_self _)
  unfold L20ax.run at hN
  simp only [hN] at h_
  exact h_
theorem L20ax.e1 (w : WD) (hw : w.n ≤ 9223372036854775807) (k0_1 : decide ((↑w.n : Int) > 30) = false) (p0_1 : ¬(↑w.n : Int) > 30) (k0_2 : decide ((↑w.nm.size : Int) > 100) = false) (p0_2 : ¬(↑w.nm.size : Int) > 100) (a3 : Int) (hinv : L20ax.inv w a3) (hN : L20ax.run w a3 = (.e1 : L20ax.O)) : LoopTo Try.prog (loopN Try.f20 0) (L20ax.T w a3) (L20ax.H w a3) (Exit.exit 0) (L20ax.X w (.e1 : L20ax.O)) (L20ax.XH w (.e1 : L20ax.O)) := by
  have h_ := L20ax.spec w hw k0_1 p0_1 k0_2 p0_2 ((((↑w.n : Int) - a3).toNat) + 1) a3 hinv (Nat.lt_succ_self _)
  unfold L20ax.run at hN
  simp only [hN] at h_
  exact h_
noncomputable def r20.v (w : WD) : Bool := (bif decide ((↑w.n : Int) > 30) then (bif decide ((↑w.n : Int) ≤ 512) then false else (bif decide ((↑w.n : Int) > 520) then false else (bif decide ((↑w.nm.size : Int) > 100) then false else (match L20a.run w 0 with | .e0 => false | .e1 => true )))) else (bif decide ((↑w.nm.size : Int) > 100) then false else (match L20ax.run w 0 with | .e0 => false | .e1 => true )))
theorem r20 (w : WD) (hw : w.n ≤ 9223372036854775807) (h : AHeap) : Ret Try.prog 20 ([w.av]) h (AV.bool (r20.v w)) h := by
  cases h1 : decide ((↑w.n : Int) > 30) with
  | true =>
    have h1p := of_decide_eq_true h1
    cases h2 : decide ((↑w.n : Int) ≤ 512) with
    | true =>
      have h2p := of_decide_eq_true h2
      exact Ret.of_run1 mix [(AV.bool (r20.v w))] Try.func20 rfl [.b true, .b true, .b true, .b true, .b true, .b true, .b true, .b true, .b true, .b true, .b true, .b true, .b true, .b true, .b true, .b true, .b true, .b true] (by simp) (by simp) (kmp (by kernel_rfl) (Ai h1 (Ai h1 (Ai h1 (Ai h1 (Ai h1 (Ai h2 (Ai h2 (Ai h2 (Ai h2 (Ai h1 (Ai h2 (Ai h1 (Ai (rfl : true = true) (Ai (rfl : true = true) (Ai (rfl : true = true) (Ai (rfl : true = true) (Ai (rfl : true = true) (Ai (rfl : true = true) (Ai (show (AV.bool false) = ((AV.bool (r20.v w))) by simp only [r20.v, h1, h2, cond_true, cond_false]) trivial)))))))))))))))))))) h
    | false =>
      have h2p := of_decide_eq_false h2
      cases h3 : decide ((↑w.n : Int) > 520) with
      | true =>
        have h3p := of_decide_eq_true h3
        exact Ret.of_run1 mix [(AV.bool (r20.v w))] Try.func20 rfl [.b true, .b true, .b true, .b true, .b true, .b false, .b false, .b false, .b false, .b true, .b false, .b true, .b true, .b true, .b true, .b true, .b true, .b true] (by simp) (by simp) (kmp (by kernel_rfl) (Ai h1 (Ai h1 (Ai h1 (Ai h1 (Ai h1 (Ai h2 (Ai h2 (Ai h2 (Ai h2 (Ai h1 (Ai h2 (Ai h1 (Ai h3 (Ai h3 (Ai h3 (Ai h3 (Ai h3 (Ai (rfl : true = true) (Ai (show (AV.bool false) = ((AV.bool (r20.v w))) by simp only [r20.v, h1, h2, h3, cond_true, cond_false]) trivial)))))))))))))))))))) h
      | false =>
        have h3p := of_decide_eq_false h3
        cases h4 : decide ((↑w.nm.size : Int) > 100) with
        | true =>
          have h4p := of_decide_eq_true h4
          exact Ret.of_run1 mix [(AV.bool (r20.v w))] Try.func20 rfl [.b true, .b true, .b true, .b true, .b true, .b false, .b false, .b false, .b false, .b true, .b false, .b true, .b false, .b false, .b false, .b false, .b false, .b true] (by simp) (by simp) (kmp (by kernel_rfl) (Ai h1 (Ai h1 (Ai h1 (Ai h1 (Ai h1 (Ai h2 (Ai h2 (Ai h2 (Ai h2 (Ai h1 (Ai h2 (Ai h1 (Ai h3 (Ai h3 (Ai h3 (Ai h3 (Ai h3 (Ai h4 (Ai (show (AV.bool false) = ((AV.bool (r20.v w))) by simp only [r20.v, h1, h2, h3, h4, cond_true, cond_false]) trivial)))))))))))))))))))) h
        | false =>
          have h4p := of_decide_eq_false h4
          have o0 : w.n ≤ (9223372036854775807 : Nat) := by assumption
          have o1 : decide ((↑w.n : Int) > (30 : Int)) = true := by assumption
          have o2 : (↑w.n : Int) > (30 : Int) := by assumption
          have o3 : decide ((↑w.n : Int) ≤ (512 : Int)) = false := by assumption
          have o4 : ¬(↑w.n : Int) ≤ (512 : Int) := by assumption
          have o5 : decide ((↑w.n : Int) > (520 : Int)) = false := by assumption
          have o6 : ¬(↑w.n : Int) > (520 : Int) := by assumption
          have o7 : decide ((↑w.nm.size : Int) > (100 : Int)) = false := by assumption
          have o8 : ¬(↑w.nm.size : Int) > (100 : Int) := by assumption
          have o9 : (0 : Int) ≤ (↑w.n : Int) ∨ (0 : Int) ≤ (0 : Int) := by omega
          cases h5 : L20a.run w 0 with
          | e0 =>
            exact Ret.of_run1 mix [(AV.bool (r20.v w))] Try.func20 rfl [.b true, .b true, .b true, .b true, .b true, .b false, .b false, .b false, .b false, .b true, .b false, .b true, .b false, .b false, .b false, .b false, .b false, .b false, .loop (others 41 [1, 3]) (Exit.ret) (L20a.X w L20a.O.e0) (L20a.XH w L20a.O.e0)] (by simp) (by simp) (kmp (by kernel_rfl) (Ai h1 (Ai h1 (Ai h1 (Ai h1 (Ai h1 (Ai h2 (Ai h2 (Ai h2 (Ai h2 (Ai h1 (Ai h2 (Ai h1 (Ai h3 (Ai h3 (Ai h3 (Ai h3 (Ai h3 (Ai h4 (Ai (L20a.e0 (w) o0 o1 o2 o3 o4 o5 o6 o7 o8 (0) (Ai (show (0 : Int) ≤ (0 : Int) by decide) o9) h5) (Ai (show (AV.bool false) = ((AV.bool (r20.v w))) by simp only [r20.v, h1, h2, h3, h4, h5, cond_true, cond_false]) trivial))))))))))))))))))))) h
          | e1 =>
            exact Ret.of_run1 mix [(AV.bool (r20.v w))] Try.func20 rfl [.b true, .b true, .b true, .b true, .b true, .b false, .b false, .b false, .b false, .b true, .b false, .b true, .b false, .b false, .b false, .b false, .b false, .b false, .loop (others 41 [1, 3]) (Exit.exit 0) (L20a.X w L20a.O.e1) (L20a.XH w L20a.O.e1)] (by simp) (by simp) (kmp (by kernel_rfl) (Ai h1 (Ai h1 (Ai h1 (Ai h1 (Ai h1 (Ai h2 (Ai h2 (Ai h2 (Ai h2 (Ai h1 (Ai h2 (Ai h1 (Ai h3 (Ai h3 (Ai h3 (Ai h3 (Ai h3 (Ai h4 (Ai (L20a.e1 (w) o0 o1 o2 o3 o4 o5 o6 o7 o8 (0) (Ai (show (0 : Int) ≤ (0 : Int) by decide) o9) h5) (Ai (show (AV.bool true) = ((AV.bool (r20.v w))) by simp only [r20.v, h1, h2, h3, h4, h5, cond_true, cond_false]) trivial))))))))))))))))))))) h
  | false =>
    have h1p := of_decide_eq_false h1
    cases h2 : decide ((↑w.nm.size : Int) > 100) with
    | true =>
      have h2p := of_decide_eq_true h2
      exact Ret.of_run1 mix [(AV.bool (r20.v w))] Try.func20 rfl [.b false, .b false, .b false, .b false, .b false, .b false, .b false, .b false, .b false, .b false, .b false, .b false, .b true] (by simp) (by simp) (kmp (by kernel_rfl) (Ai h1 (Ai h1 (Ai h1 (Ai h1 (Ai h1 (Ai h1 (Ai h1 (Ai (rfl : false = false) (Ai (rfl : false = false) (Ai (rfl : false = false) (Ai (rfl : false = false) (Ai (rfl : false = false) (Ai h2 (Ai (show (AV.bool false) = ((AV.bool (r20.v w))) by simp only [r20.v, h1, h2, cond_true, cond_false]) trivial))))))))))))))) h
    | false =>
      have h2p := of_decide_eq_false h2
      have o0 : w.n ≤ (9223372036854775807 : Nat) := by assumption
      have o10 : decide ((↑w.n : Int) > (30 : Int)) = false := by assumption
      have o11 : ¬(↑w.n : Int) > (30 : Int) := by assumption
      have o7 : decide ((↑w.nm.size : Int) > (100 : Int)) = false := by assumption
      have o8 : ¬(↑w.nm.size : Int) > (100 : Int) := by assumption
      have o9 : (0 : Int) ≤ (↑w.n : Int) ∨ (0 : Int) ≤ (0 : Int) := by omega
      cases h3 : L20ax.run w 0 with
      | e0 =>
        exact Ret.of_run1 mix [(AV.bool (r20.v w))] Try.func20 rfl [.b false, .b false, .b false, .b false, .b false, .b false, .b false, .b false, .b false, .b false, .b false, .b false, .b false, .loop (others 41 [1, 3]) (Exit.ret) (L20ax.X w L20ax.O.e0) (L20ax.XH w L20ax.O.e0)] (by simp) (by simp) (kmp (by kernel_rfl) (Ai h1 (Ai h1 (Ai h1 (Ai h1 (Ai h1 (Ai h1 (Ai h1 (Ai (rfl : false = false) (Ai (rfl : false = false) (Ai (rfl : false = false) (Ai (rfl : false = false) (Ai (rfl : false = false) (Ai h2 (Ai (L20ax.e0 (w) o0 o10 o11 o7 o8 (0) (Ai (show (0 : Int) ≤ (0 : Int) by decide) o9) h3) (Ai (show (AV.bool false) = ((AV.bool (r20.v w))) by simp only [r20.v, h1, h2, h3, cond_true, cond_false]) trivial)))))))))))))))) h
      | e1 =>
        exact Ret.of_run1 mix [(AV.bool (r20.v w))] Try.func20 rfl [.b false, .b false, .b false, .b false, .b false, .b false, .b false, .b false, .b false, .b false, .b false, .b false, .b false, .loop (others 41 [1, 3]) (Exit.exit 0) (L20ax.X w L20ax.O.e1) (L20ax.XH w L20ax.O.e1)] (by simp) (by simp) (kmp (by kernel_rfl) (Ai h1 (Ai h1 (Ai h1 (Ai h1 (Ai h1 (Ai h1 (Ai h1 (Ai (rfl : false = false) (Ai (rfl : false = false) (Ai (rfl : false = false) (Ai (rfl : false = false) (Ai (rfl : false = false) (Ai h2 (Ai (L20ax.e1 (w) o0 o10 o11 o7 o8 (0) (Ai (show (0 : Int) ≤ (0 : Int) by decide) o9) h3) (Ai (show (AV.bool true) = ((AV.bool (r20.v w))) by simp only [r20.v, h1, h2, h3, cond_true, cond_false]) trivial)))))))))))))))) h
end Go.Proofs.Ytjdbmmilcihpoaa
open Go
namespace Go.Proofs.Ytjdbmmilcihpoaa
set_option linter.unusedVariables false
set_option linter.unusedSimpArgs false
variable {L j l : Int} {n m k : Nat} {f g s : Nat → Int} {xs : List Int}
/-- A stone of a size may begin at a position. -/
noncomputable def goX (L j l : Int) (m : Nat) (g : Nat → Int) (xs : List Int) (t : Nat) (s : Int) : Bool :=
  decide ((t : Int) + s = L) || (decide ((t : Int) + s + j < L) && (decide (xs.getD ((t : Int) + s + j).toNat 0 > 0) && r34.v ((t : Int) + s) j l m g))
theorem r33_eq (hj0 : 0 ≤ j) (hj : j ≤ 1000) {t : Nat} (ht : t ≤ 20000) {s : Int} (h1 : 1 ≤ s) (h2 : s ≤ 20000) : r33.v L j l m g xs t s = goX L j l m g xs t s := by
  unfold r33.v goX
  simp only [i64_small (x := (t : Int) + s) (by omega), i64_small (x := (t : Int) + s + j) (by omega), Nat.zero_add]
  have e : ((t : Int) + s == L) = decide ((t : Int) + s = L) := rfl
  rw [e]
  cases decide ((t : Int) + s = L) <;> cases decide ((t : Int) + s + j < L) <;> cases decide (xs.getD ((t : Int) + s + j).toNat 0 > 0) <;> rfl
theorem goX_set {c t : Nat} {v s : Int} (hc : c ≤ t) (h1 : 1 ≤ s) (hj : 0 ≤ j) : goX L j l m g (xs.set c v) t s = goX L j l m g xs t s := by
  unfold goX
  have e : (xs.set c v).getD ((t : Int) + s + j).toNat 0 = xs.getD ((t : Int) + s + j).toNat 0 := by
    rw [List.getD_eq_getElem?_getD, List.getD_eq_getElem?_getD, List.getElem?_set, if_neg (by omega)]
  rw [e]
/-- The first size that will do. -/
def fs (P : Int → Bool) (f : Nat → Int) (b : Nat) : Nat → Int
  | 0 => 0
  | c + 1 => bif P (f b) then f b else fs P f (b + 1) c
theorem fs_cases (P : Int → Bool) (f : Nat → Int) : ∀ c b, (fs P f b c = 0 ∧ ∀ i, b ≤ i → i < b + c → P (f i) = false) ∨ ∃ i, b ≤ i ∧ i < b + c ∧ fs P f b c = f i ∧ P (f i) = true ∧ ∀ i', b ≤ i' → i' < i → P (f i') = false := by
  intro c
  induction c with
  | zero => intro b; exact .inl ⟨rfl, fun i h1 h2 => by omega⟩
  | succ c ih =>
    intro b
    cases hp : P (f b) with
    | true => exact .inr ⟨b, Nat.le_refl _, by omega, by simp [fs, hp], hp, fun i' h1 h2 => by omega⟩
    | false =>
      have e : fs P f b (c + 1) = fs P f (b + 1) c := by simp [fs, hp]
      rcases ih (b + 1) with ⟨a1, a2⟩ | ⟨i, a1, a2, a3, a4, a5⟩
      · refine .inl ⟨e.trans a1, fun i h1 h2 => ?_⟩
        by_cases e2 : i = b
        · rw [e2]; exact hp
        · exact a2 i (by omega) (by omega)
      · refine .inr ⟨i, by omega, by omega, e.trans a3, a4, fun i' h1 h2 => ?_⟩
        by_cases e2 : i' = b
        · rw [e2]; exact hp
        · exact a5 i' (by omega) h2
theorem fs_congr {P Q : Int → Bool} {f : Nat → Int} : ∀ c b, (∀ i, b ≤ i → i < b + c → P (f i) = Q (f i)) → fs P f b c = fs Q f b c := by
  intro c
  induction c with
  | zero => intro b _; rfl
  | succ c ih =>
    intro b h
    simp only [fs, h b (Nat.le_refl _) (by omega), ih (b + 1) fun i h1 h2 => h i (by omega) (by omega)]
theorem set_zero {c : Nat} (h : xs.getD c 0 = 0) : xs.set c 0 = xs := by
  apply List.ext_getElem?
  intro t
  rw [List.getElem?_set]
  split
  · next e =>
    subst e
    rw [List.getD_eq_getElem?_getD] at h
    cases q : xs[c]? with
    | none =>
      rw [if_neg]
      intro hc
      rw [List.getElem?_eq_getElem hc] at q; cases q
    | some b =>
      rw [q] at h
      have hi := (List.getElem?_eq_some_iff.1 q).1
      rw [if_pos hi]
      simp only [Option.getD_some] at h
      rw [h]
  · rfl
theorem getD_set {c t : Nat} {v : Int} (hc : c < xs.length) : (xs.set c v).getD t 0 = if t = c then v else xs.getD t 0 := by
  rw [List.getD_eq_getElem?_getD, List.getD_eq_getElem?_getD, List.getElem?_set]
  by_cases e : c = t
  · subst e; rw [if_pos rfl, if_pos hc, if_pos rfl]; rfl
  · rw [if_neg e, if_neg fun h => e h.symm]
theorem L11b_run (h : LOk L j l n f m g) {t : Nat} (ht : t ≤ 20000) (hz : xs.getD t 0 = 0) : ∀ q b, b ≤ n → n - b < q →
    L11ab.N L j l n f m g t q (b : Int) xs = .e0 (xs.set t (fs (goX L j l m g xs t) f b (n - b))) := by
  have hn := h.n2
  intro q
  induction q with
  | zero => intro b _ h; omega
  | succ q ih =>
    intro b hb hq
    simp only [L11ab.N, Int.toNat_natCast, Nat.zero_add]
    by_cases hlt : b < n
    · rw [decide_eq_true (show (b : Int) < n by omega), wrap_succ (n := n) (by omega) hlt, r33_eq h.j1 h.j2 ht (h.f1 b hlt) (h.f2 b hlt), show n - b = (n - (b + 1)) + 1 by omega]
      simp only [cond_true, fs]
      cases goX L j l m g xs t (f b) with
      | true => rfl
      | false => simp only [cond_false]; exact ih (b + 1) hlt (by omega)
    · rw [decide_eq_false (by omega), show n - b = 0 by omega]
      show L11ab.O.e0 xs = .e0 (xs.set t 0)
      rw [set_zero hz]
/-- What the table of first sizes holds. -/
structure FOk (L j l : Int) (n : Nat) (f : Nat → Int) (m : Nat) (g : Nat → Int) (xs : List Int) : Prop where
  len : xs.length = (L + 1).toNat
  val : ∀ t : Nat, (t : Int) < L → xs.getD t 0 = fs (goX L j l m g xs t) f 0 n
theorem L11_run (h : LOk L j l n f m g) : ∀ (q c : Nat) (xs : List Int), (c : Int) ≤ L → c < q → xs.length = (L + 1).toNat → (∀ t, t < c → xs.getD t 0 = 0) → (∀ t : Nat, c ≤ t → (t : Int) < L → xs.getD t 0 = fs (goX L j l m g xs t) f 0 n) →
    ∃ xs', L11a.N L j l n f m g q ((c : Int) - 1) xs = .e0 xs' ∧ FOk L j l n f m g xs' := by
  have hl1 := h.l1
  have hl2 := h.l2
  intro q
  induction q with
  | zero => intro c xs _ h; omega
  | succ q ih =>
    intro c xs hc hq hl hz hv
    simp only [L11a.N]
    cases c with
    | zero =>
      rw [decide_eq_false (by omega)]
      exact ⟨xs, rfl, hl, fun t ht => hv t (Nat.zero_le _) ht⟩
    | succ c =>
      rw [show ((c + 1 : Nat) : Int) - 1 = (c : Int) by omega, decide_eq_true (show (c : Int) ≥ 0 by omega)]
      have e : L11ab.run L j l n f m g (c : Int) 0 xs = .e0 (xs.set c (fs (goX L j l m g xs c) f 0 n)) := by
        have := L11b_run (xs := xs) h (t := c) (by omega) (hz c (by omega)) (((n : Int) - 0).toNat + 1) 0 (Nat.zero_le _) (by omega)
        exact this
      rw [e, i64_small (x := (c : Int) - 1) (by omega)]
      simp only [cond_true]
      have hlen : c < xs.length := by omega
      have gs : ∀ t, c ≤ t → fs (goX L j l m g (xs.set c (fs (goX L j l m g xs c) f 0 n)) t) f 0 n = fs (goX L j l m g xs t) f 0 n := fun t ht =>
        fs_congr n 0 fun i _ hi => goX_set ht (h.f1 i (by omega)) h.j1
      refine ih c _ (by omega) (by omega) (by rw [List.length_set]; exact hl) (fun t ht => ?_) (fun t h1 h2 => ?_)
      · rw [getD_set hlen, if_neg (by omega)]; exact hz t (by omega)
      · rw [getD_set hlen, gs t h1]
        by_cases e2 : t = c
        · rw [if_pos e2, e2]
        · rw [if_neg e2]; exact hv t (by omega) h2
theorem fok (h : LOk L j l n f m g) : ∃ xs, L11a.run L j l n f m g (L - 1) (List.replicate (L + 1).toNat 0) = .e0 xs ∧ FOk L j l n f m g xs := by
  have hl1 := h.l1
  have hl2 := h.l2
  obtain ⟨xs, e, hf⟩ := L11_run h ((L - 1 + 1).toNat + 1) L.toNat (List.replicate (L + 1).toNat 0) (by omega) (by omega) (by simp) (fun t _ => by simp [List.getD_eq_getElem?_getD, List.getElem?_replicate]; split <;> rfl) (fun t h1 h2 => by omega)
  refine ⟨xs, ?_, hf⟩
  have e1 : L11a.run L j l n f m g (L - 1) (List.replicate (L + 1).toNat 0) = L11a.N L j l n f m g ((L - 1 + 1).toNat + 1) (L - 1) (List.replicate (L + 1).toNat 0) := rfl
  rw [e1]
  rw [show ((L.toNat : Nat) : Int) - 1 = L - 1 by omega] at e
  exact e
theorem bd_fok (h : LOk L j l n f m g) (e : L11a.run L j l n f m g (IntKind.i64.wrap (L - 1)) (List.replicate (IntKind.i64.wrap (L + 1)).toNat 0) = .e0 xs) : FOk L j l n f m g xs ∧ xs.length = (L + 1).toNat := by
  obtain ⟨xs', e', hf⟩ := fok h
  have hl1 := h.l1
  have hl2 := h.l2
  rw [i64_small (by omega), i64_small (by omega), e'] at e
  cases e
  exact ⟨hf, hf.len⟩
/-- Where a stone may begin, one goes on. -/
theorem FOk.step (h : LOk L j l n f m g) (hf : FOk L j l n f m g xs) {t : Nat} (ht : (t : Int) < L) :
    xs.getD t 0 = 0 ∨ (1 ≤ xs.getD t 0 ∧ xs.getD t 0 ≤ 20000 ∧ goX L j l m g xs t (xs.getD t 0) = true) := by
  rcases fs_cases (goX L j l m g xs t) f n 0 with ⟨a1, _⟩ | ⟨i, a1, a2, a3, a4, _⟩
  · exact .inl ((hf.val t ht).trans a1)
  · right
    rw [hf.val t ht, a3]
    exact ⟨h.f1 i (by omega), h.f2 i (by omega), a4⟩
theorem bd_go (hf : FOk L j l n f m g xs) (h : LOk L j l n f m g) {a : Int} (h1 : a < L) (h0 : 0 ≤ a) (hx : a ≥ L ∨ xs.getD (0 + a.toNat) 0 > 0) :
    (1 ≤ xs.getD (0 + a.toNat) 0 ∧ xs.getD (0 + a.toNat) 0 ≤ 20000) ∧ (IntKind.i64.wrap (a + IntKind.i64.wrap (xs.getD (0 + a.toNat) 0 + j)) = a + (xs.getD (0 + a.toNat) 0 + j)) ∧
    (a + (xs.getD (0 + a.toNat) 0 + j) ≥ L ∨ xs.getD (0 + (a + (xs.getD (0 + a.toNat) 0 + j)).toNat) 0 > 0) := by
  simp only [Nat.zero_add] at *
  obtain ⟨t, rfl⟩ := Int.eq_ofNat_of_zero_le h0
  simp only [Int.toNat_natCast] at *
  have hl2 := h.l2
  have hj1 := h.j1
  have hj2 := h.j2
  rcases hf.step h h1 with e | ⟨b1, b2, b3⟩
  · omega
  · refine ⟨⟨b1, b2⟩, by rw [i64_small (x := xs.getD t 0 + j) (by omega), i64_small (by omega)], ?_⟩
    unfold goX at b3
    simp only [Bool.or_eq_true, Bool.and_eq_true, decide_eq_true_eq] at b3
    rcases b3 with q | ⟨q1, q2, _⟩
    · exact .inl (by omega)
    · right
      rw [show (t : Int) + (xs.getD t 0 + j) = (t : Int) + xs.getD t 0 + j by omega]
      exact q2
end Go.Proofs.Ytjdbmmilcihpoaa
open Go
namespace Go.Proofs.Ytjdbmmilcihpoaa
set_option linter.unusedSimpArgs false
set_option linter.unusedVariables false
set_option maxHeartbeats 0
set_option maxRecDepth 100000
inductive L11c.O where
  | e0 (a0 : Nat) (a1 : List Int)
noncomputable def L11c.T (L : Int) (j : Int) (l : Int) (n : Nat) (f : Nat → Int) (m : Nat) (g : Nat → Int) (V : Nat) (xs : List Int) (a19 : Int) (v18 : Nat) (al : List Int) : List AV := mkT 77 [(5, AV.ptr 0 1 1 0 0), (6, AV.ptr 1 1 1 0 0), (13, AV.ptr 5 1 1 0 0), (18, AV.ms 6 v18 1 0 al.length), (19, AV.int IntKind.i64 a19)]
noncomputable def L11c.H (L : Int) (j : Int) (l : Int) (n : Nat) (f : Nat → Int) (m : Nat) (g : Nat → Int) (V : Nat) (xs : List Int) (a19 : Int) (v18 : Nat) (al : List Int) : AHeap := [AObj.var (AV.int IntKind.i64 L), AObj.var (AV.int IntKind.i64 j), AObj.var (AV.int IntKind.i64 l), AObj.var (ivs m g), AObj.row 1 V (Col.ints IntKind.i64 xs), AObj.var (AV.ms 4 V 1 0 V), AObj.row 1 v18 (Col.ints IntKind.i64 al)]
def L11c.inv (L : Int) (j : Int) (l : Int) (n : Nat) (f : Nat → Int) (m : Nat) (g : Nat → Int) (V : Nat) (xs : List Int) (a19 : Int) (v18 : Nat) (al : List Int) : Prop := (0 ≤ a19 ∧ a19 ≤ 41000) ∧ (a19 ≥ L ∨ xs.getD (0 + a19.toNat) 0 > 0) ∧ (↑al.length : Int) ≤ a19
noncomputable def L11c.mu (L : Int) (j : Int) (l : Int) (n : Nat) (f : Nat → Int) (m : Nat) (g : Nat → Int) (V : Nat) (xs : List Int) (a19 : Int) (v18 : Nat) (al : List Int) : Nat := (L - a19).toNat
noncomputable def L11c.E : L11c.O → Exit
  | .e0 a0 a1 => Exit.exit 4
noncomputable def L11c.X (L : Int) (j : Int) (l : Int) (n : Nat) (f : Nat → Int) (m : Nat) (g : Nat → Int) (V : Nat) (xs : List Int) : L11c.O → List AV
  | .e0 a0 a1 => mkT 77 [(18, (AV.ms 6 a0 1 0 (List.length a1)))]
noncomputable def L11c.XH (L : Int) (j : Int) (l : Int) (n : Nat) (f : Nat → Int) (m : Nat) (g : Nat → Int) (V : Nat) (xs : List Int) : L11c.O → AHeap
  | .e0 a0 a1 => ((AObj.var (AV.int IntKind.i64 L)) :: ((AObj.var (AV.int IntKind.i64 j)) :: ((AObj.var (AV.int IntKind.i64 l)) :: ((AObj.var (AV.sl 1 m fun (i : Nat) => AV.int IntKind.i64 (g i))) :: ((AObj.row 1 V (Col.ints IntKind.i64 xs)) :: ((AObj.var (AV.ms 4 V 1 0 V)) :: ((AObj.row 1 a0 (Col.ints IntKind.i64 a1)) :: ([]))))))))
noncomputable def L11c.N (L : Int) (j : Int) (xs : List Int) : Nat → Int → Nat → (List Int) → L11c.O
  | 0, _, v18, al => .e0 v18 al
  | k_ + 1, a19, v18, al => (bif decide (a19 < L) then (L11c.N L j xs k_ (IntKind.i64.wrap (a19 + IntKind.i64.wrap (xs.getD (0 + a19.toNat) 0 + j))) (v18 + 1) (al ++ [xs.getD (0 + a19.toNat) 0])) else (.e0 (v18) (al)))
noncomputable def L11c.run (L : Int) (j : Int) (xs : List Int) (a19 : Int) (v18 : Nat) (al : List Int) : L11c.O := L11c.N L j xs (((L - a19).toNat) + 1) a19 v18 al
theorem L11c.nx (L : Int) (j : Int) (l : Int) (n : Nat) (f : Nat → Int) (m : Nat) (g : Nat → Int) (V : Nat) (xs : List Int) {k_ : Nat} {z_ : Int × Nat × (List Int)} {h_ : AHeap} (s_ : Int × Nat × (List Int)) (h1 : L11c.inv L j l n f m g V xs s_.1 s_.2.1 s_.2.2) (h2 : L11c.mu L j l n f m g V xs s_.1 s_.2.1 s_.2.2 < L11c.mu L j l n f m g V xs z_.1 z_.2.1 z_.2.2) (h3 : L11c.N L j xs k_ s_.1 s_.2.1 s_.2.2 = L11c.N L j xs (k_ + 1) z_.1 z_.2.1 z_.2.2) (h4 : PopOk (L11c.H L j l n f m g V xs z_.1 z_.2.1 z_.2.2) h_ (L11c.T L j l n f m g V xs s_.1 s_.2.1 s_.2.2) (L11c.H L j l n f m g V xs s_.1 s_.2.1 s_.2.2)) : LNextP (fun (z_ : Int × Nat × (List Int)) => L11c.T L j l n f m g V xs z_.1 z_.2.1 z_.2.2) (fun (z_ : Int × Nat × (List Int)) => L11c.H L j l n f m g V xs z_.1 z_.2.1 z_.2.2) (fun (z_ : Int × Nat × (List Int)) => L11c.inv L j l n f m g V xs z_.1 z_.2.1 z_.2.2) (fun (z_ : Int × Nat × (List Int)) => L11c.mu L j l n f m g V xs z_.1 z_.2.1 z_.2.2) (fun (k_ : Nat) (z_ : Int × Nat × (List Int)) => L11c.N L j xs k_ z_.1 z_.2.1 z_.2.2) k_ z_ (L11c.T L j l n f m g V xs s_.1 s_.2.1 s_.2.2) h_ := LNextP.mk (Tm := (fun (z_ : Int × Nat × (List Int)) => L11c.T L j l n f m g V xs z_.1 z_.2.1 z_.2.2)) (Hp := (fun (z_ : Int × Nat × (List Int)) => L11c.H L j l n f m g V xs z_.1 z_.2.1 z_.2.2)) (inv := (fun (z_ : Int × Nat × (List Int)) => L11c.inv L j l n f m g V xs z_.1 z_.2.1 z_.2.2)) (mu := (fun (z_ : Int × Nat × (List Int)) => L11c.mu L j l n f m g V xs z_.1 z_.2.1 z_.2.2)) (l := (fun (k_ : Nat) (z_ : Int × Nat × (List Int)) => L11c.N L j xs k_ z_.1 z_.2.1 z_.2.2)) s_ h1 h2 h3 h4
theorem L11c.en (L : Int) (j : Int) (l : Int) (n : Nat) (f : Nat → Int) (m : Nat) (g : Nat → Int) (V : Nat) (xs : List Int) {k_ : Nat} {z_ : Int × Nat × (List Int)} {h_ : AHeap} (o_ : L11c.O) (h3 : L11c.N L j xs (k_ + 1) z_.1 z_.2.1 z_.2.2 = o_) (h4 : PopOk (L11c.H L j l n f m g V xs z_.1 z_.2.1 z_.2.2) h_ (L11c.X L j l n f m g V xs o_) (L11c.XH L j l n f m g V xs o_)) : LEndP (fun (z_ : Int × Nat × (List Int)) => L11c.H L j l n f m g V xs z_.1 z_.2.1 z_.2.2) (fun (k_ : Nat) (z_ : Int × Nat × (List Int)) => L11c.N L j xs k_ z_.1 z_.2.1 z_.2.2) L11c.E (L11c.X L j l n f m g V xs) (L11c.XH L j l n f m g V xs) k_ z_ (L11c.E o_) (L11c.X L j l n f m g V xs o_) h_ := LEndP.mk (Hp := (fun (z_ : Int × Nat × (List Int)) => L11c.H L j l n f m g V xs z_.1 z_.2.1 z_.2.2)) (l := (fun (k_ : Nat) (z_ : Int × Nat × (List Int)) => L11c.N L j xs k_ z_.1 z_.2.1 z_.2.2)) (oE := L11c.E) (oT := L11c.X L j l n f m g V xs) (oH := L11c.XH L j l n f m g V xs) o_ h3 h4
theorem L11c.spec (L : Int) (j : Int) (l : Int) (n : Nat) (f : Nat → Int) (hn : n ≤ 9223372036854775807) (m : Nat) (g : Nat → Int) (hm : m ≤ 9223372036854775807) (hk : LOk L j l n f m g) (V : Nat) (xs : List Int) (hf : FOk L j l n f m g xs) (hV : V = (L + 1).toNat) (hV2 : xs.length = (L + 1).toNat) (k_ : Nat) (z_ : Int × Nat × (List Int)) (hi_ : L11c.inv L j l n f m g V xs z_.1 z_.2.1 z_.2.2) (hm_ : L11c.mu L j l n f m g V xs z_.1 z_.2.1 z_.2.2 < k_) : LoopTo Try.prog (loopN Try.f11 2) (L11c.T L j l n f m g V xs z_.1 z_.2.1 z_.2.2) (L11c.H L j l n f m g V xs z_.1 z_.2.1 z_.2.2) (L11c.E (L11c.N L j xs k_ z_.1 z_.2.1 z_.2.2)) (L11c.X L j l n f m g V xs (L11c.N L j xs k_ z_.1 z_.2.1 z_.2.2)) (L11c.XH L j l n f m g V xs (L11c.N L j xs k_ z_.1 z_.2.1 z_.2.2)) := by
  refine LoopTo.fuelP mix (fun (z_ : Int × Nat × (List Int)) => L11c.T L j l n f m g V xs z_.1 z_.2.1 z_.2.2) (fun (z_ : Int × Nat × (List Int)) => L11c.H L j l n f m g V xs z_.1 z_.2.1 z_.2.2) (fun (z_ : Int × Nat × (List Int)) => L11c.inv L j l n f m g V xs z_.1 z_.2.1 z_.2.2) (fun (z_ : Int × Nat × (List Int)) => L11c.mu L j l n f m g V xs z_.1 z_.2.1 z_.2.2) (fun (k_ : Nat) (z_ : Int × Nat × (List Int)) => L11c.N L j xs k_ z_.1 z_.2.1 z_.2.2) L11c.E (L11c.X L j l n f m g V xs) (L11c.XH L j l n f m g V xs) (others 77 [5, 6, 13, 18, 19]) (others 77 [10, 11]) (others 77 [18]) ?_ k_ z_ hi_ hm_
  clear hm_ hi_ z_ k_
  intro k_ z_ hinv hmu
  obtain ⟨a19, v18, al⟩ := z_
  have hinv : (0 ≤ a19 ∧ a19 ≤ 41000) ∧ (a19 ≥ L ∨ xs.getD (0 + a19.toNat) 0 > 0) ∧ (↑al.length : Int) ≤ a19 := hinv
  have hmu : ((L - a19).toNat) < k_ + 1 := hmu
  cases h1 : decide (a19 < L) with
  | true =>
    have h1p := of_decide_eq_true h1
    try have := bd_len (by assumption)
    try have := bd_go (by assumption) (by assumption) (by assumption) (by omega) (by omega)
    have o0 : (0 : Int) ≤ a19 := by omega
    have o1 : a19 < (↑V : Int) := by omega
    have o2 : (0 : Nat) + a19.toNat < (Col.ints IntKind.i64 xs).len := by simp only [Col.len, zero_bool, zero_int, List.length_replicate, List.length_set] at *; omega
    have o3 : (al.length + (1 : Nat)) * (8 : Nat) ≤ (140737488355328 : Nat) := by omega
    have o4 : al.length = (Col.ints IntKind.i64 al).len := by rfl
    try have := IntWalk.i64_in (xs.getD (0 + a19.toNat) 0 + j) (by omega)
    try have := IntWalk.i64_in (a19 + IntKind.i64.wrap (xs.getD (0 + a19.toNat) 0 + j)) (by omega)
    have o5 : (0 : Int) ≤ IntKind.i64.wrap (a19 + IntKind.i64.wrap (xs.getD ((0 : Nat) + a19.toNat) (0 : Int) + j)) := by omega
    have o6 : IntKind.i64.wrap (a19 + IntKind.i64.wrap (xs.getD ((0 : Nat) + a19.toNat) (0 : Int) + j)) ≤ (41000 : Int) := by omega
    have o7 : IntKind.i64.wrap (a19 + IntKind.i64.wrap (xs.getD ((0 : Nat) + a19.toNat) (0 : Int) + j)) ≥ L ∨ xs.getD ((0 : Nat) + (IntKind.i64.wrap (a19 + IntKind.i64.wrap (xs.getD ((0 : Nat) + a19.toNat) (0 : Int) + j))).toNat) (0 : Int) > (0 : Int) := by simp_all
    have o8 : (↑(al ++ [xs.getD ((0 : Nat) + a19.toNat) (0 : Int)]).length : Int) ≤ IntKind.i64.wrap (a19 + IntKind.i64.wrap (xs.getD ((0 : Nat) + a19.toNat) (0 : Int) + j)) := by simp only [List.length_append, List.length_cons, List.length_nil, List.length_map]; omega
    have o9 : (L - IntKind.i64.wrap (a19 + IntKind.i64.wrap (xs.getD ((0 : Nat) + a19.toNat) (0 : Int) + j))).toNat < (L - a19).toNat := by omega
    exact ⟨[.b true, .app .one false], kmp (by kernel_rfl) (Ai h1 (Ai (Ai o0 o1) (Ai (Ai (rfl : V = V) (Ai (show (1 : Nat) = (1 : Nat) by decide) o2)) (Ai (Ai (show (1 : Nat) = (1 : Nat) by decide) (Ai (show AppMode.one.needs 1 fun (a : Nat) => (Col.ofList [AV.int IntKind.i64 (xs.getD (0 + a19.toNat) 0)]).get a by exact ⟨rfl, rfl⟩) (Ai o3 (Ai (rfl : v18 = v18) (Ai (show (0 : Nat) = (0 : Nat) by decide) o4))))) (Ai (Ai o0 o1) (Ai (Ai (rfl : V = V) (Ai (show (1 : Nat) = (1 : Nat) by decide) o2)) (L11c.nx L j l n f m g V xs (k_ := k_) (z_ := (a19, v18, al)) ((IntKind.i64.wrap (a19 + IntKind.i64.wrap (xs.getD (0 + a19.toNat) 0 + j)), v18 + 1, al ++ [xs.getD (0 + a19.toNat) 0])) (Ai (Ai o5 o6) (Ai o7 o8)) o9 (by simp only [L11c.N, h1, cond_true, cond_false]) PopOk.same)))))))⟩
  | false =>
    have h1p := of_decide_eq_false h1
    exact ⟨[.b false], kmp (by kernel_rfl) (Ai h1 (L11c.en L j l n f m g V xs (k_ := k_) (z_ := (a19, v18, al)) (.e0 (v18) (al) : L11c.O) (by simp only [L11c.N, h1, cond_true, cond_false]) PopOk.same))⟩
theorem L11c.e0 (L : Int) (j : Int) (l : Int) (n : Nat) (f : Nat → Int) (hn : n ≤ 9223372036854775807) (m : Nat) (g : Nat → Int) (hm : m ≤ 9223372036854775807) (hk : LOk L j l n f m g) (V : Nat) (xs : List Int) (hf : FOk L j l n f m g xs) (hV : V = (L + 1).toNat) (hV2 : xs.length = (L + 1).toNat) (a19 : Int) (v18 : Nat) (al : List Int) (hinv : L11c.inv L j l n f m g V xs a19 v18 al) (a0 : Nat) (a1 : List Int) (hN : L11c.run L j xs a19 v18 al = (.e0 a0 a1 : L11c.O)) : LoopTo Try.prog (loopN Try.f11 2) (L11c.T L j l n f m g V xs a19 v18 al) (L11c.H L j l n f m g V xs a19 v18 al) (Exit.exit 4) (L11c.X L j l n f m g V xs (.e0 a0 a1 : L11c.O)) (L11c.XH L j l n f m g V xs (.e0 a0 a1 : L11c.O)) := by
  have h_ := L11c.spec L j l n f hn m g hm hk V xs hf hV hV2 (((L - a19).toNat) + 1) (a19, v18, al) hinv (Nat.lt_succ_self _)
  unfold L11c.run at hN
  simp only [hN] at h_
  exact h_
theorem L11c.len0_1 {L : Int} {j : Int} {xs : List Int} : ∀ (m_ : Nat) (a19 : Int) (v18 : Nat) (al : List Int) (a0_ : Nat) (a1_ : List Int), L11c.N L j xs m_ a19 v18 al = (.e0 a0_ a1_ : L11c.O) → (a1_).length ≤ (al).length + m_ := by
  intro m_
  induction m_ with
  | zero =>
    intro a19 v18 al a0_ a1_ h_
    simp only [L11c.N] at h_
    cases h_
    first | exact Nat.zero_le _ | omega
  | succ m_ ih_ =>
    intro a19 v18 al a0_ a1_ h_
    cases h1 : decide (a19 < L) with
    | true =>
      have h1p := of_decide_eq_true h1
      (simp only [L11c.N, h1, cond_true, cond_false] at h_; first | (have := ih_ _ _ _ _ _ h_; (try simp only [List.length_append, List.length_cons, List.length_nil, List.length_set] at this); omega) | (cases h_; done) | (cases h_; omega))
    | false =>
      have h1p := of_decide_eq_false h1
      (simp only [L11c.N, h1, cond_true, cond_false] at h_; first | (have := ih_ _ _ _ _ _ h_; (try simp only [List.length_append, List.length_cons, List.length_nil, List.length_set] at this); omega) | (cases h_; done) | (cases h_; omega))
theorem L11c.lenR0_1 {L : Int} {j : Int} {xs : List Int} {a19 : Int} {v18 : Nat} {al : List Int} {a0_ : Nat} {a1_ : List Int} (h_ : L11c.run L j xs a19 v18 al = (.e0 a0_ a1_ : L11c.O)) : (a1_).length ≤ (al).length + (((L - a19).toNat) + 1) := L11c.len0_1 _ a19 v18 al a0_ a1_ h_
theorem first_pos {L j l : Int} {n m : Nat} {f g : Nat → Int} {xs : List Int} (hf : FOk L j l n f m g xs) (h : LOk L j l n f m g) (hne : ¬ (xs.getD 0 0 = 0)) : (0 : Int) ≥ L ∨ xs.getD 0 0 > 0 := by
  rcases hf.step h (t := 0) (by have := h.l1; omega) with e | ⟨b1, b2, b3⟩
  · exact (hne e).elim
  · right; omega
noncomputable def r11.v0 (L : Int) (j : Int) (l : Int) (n : Nat) (f : Nat → Int) (m : Nat) (g : Nat → Int) : List Int := (bif r32.v L j l n f m g == 0 then (match L11a.run L j l n f m g (IntKind.i64.wrap (L - 1)) (List.replicate (IntKind.i64.wrap (L + 1)).toNat 0) with | .e0 h2d0 => (bif h2d0.getD 0 0 == 0 then ([] : List Int) else (match L11c.run L j h2d0 0 0 [] with | .e0 h4d0 h4d1 => h4d1 )) ) else ([] : List Int))
noncomputable def r11.v1 (L : Int) (j : Int) (l : Int) (n : Nat) (f : Nat → Int) (m : Nat) (g : Nat → Int) : Int := (bif r32.v L j l n f m g == 0 then (match L11a.run L j l n f m g (IntKind.i64.wrap (L - 1)) (List.replicate (IntKind.i64.wrap (L + 1)).toNat 0) with | .e0 h2d0 => (bif h2d0.getD 0 0 == 0 then 9 else (match L11c.run L j h2d0 0 0 [] with | .e0 h4d0 h4d1 => 0 )) ) else r32.v L j l n f m g)
noncomputable abbrev r11.h0 (L : Int) (j : Int) (l : Int) (n : Nat) (f : Nat → Int) (m : Nat) (g : Nat → Int) : AHeap := ([AObj.var (AV.int IntKind.i64 L), AObj.var (AV.int IntKind.i64 j), AObj.var (AV.int IntKind.i64 l), AObj.var (AV.sl 1 m fun (i : Nat) => AV.int IntKind.i64 (g i))])
theorem r11 (L : Int) (j : Int) (l : Int) (n : Nat) (f : Nat → Int) (hn : n ≤ 9223372036854775807) (m : Nat) (g : Nat → Int) (hm : m ≤ 9223372036854775807) (h : AHeap) : Ret Try.prog 11 ([AV.int IntKind.i64 L, AV.int IntKind.i64 j, AV.int IntKind.i64 l, ivs n f, ivs m g]) h (AV.tup [(avInts IntKind.i64 (r11.v0 L j l n f m g)), (AV.int IntKind.i64 (r11.v1 L j l n f m g))]) h := by
  try have := bd_ok (by first | assumption | omega) (by first | assumption | omega) (by first | assumption | omega)
  try have := bd_len (by first | assumption | omega)
  try have := bd_fok (by first | assumption | omega) (by first | assumption | omega)
  have o0 : n ≤ (9223372036854775807 : Nat) := by assumption
  have o1 : m ≤ (9223372036854775807 : Nat) := by assumption
  cases h1 : r32.v L j l n f m g == 0 with
  | true =>
    have h1p := eq_of_beq h1
    try have := bd_ok (by assumption) (by assumption) (by assumption)
    try have := bd_len (by assumption)
    try have := bd_fok (by assumption) (by first | assumption | omega)
    try have := L11a.leqR0_0 _ _ _ _ _ _ _ (by assumption); (try simp only [List.length_replicate] at this)
    try have := L11c.lenR0_1 (by assumption); (try simp only [List.length_nil] at this)
    try have := IntWalk.i64_in (L + 1) (by omega)
    have o2 : (0 : Int) ≤ IntKind.i64.wrap (L + (1 : Int)) := by omega
    have o3 : (8 : Int) * IntKind.i64.wrap (L + (1 : Int)) ≤ (281474976710656 : Int) := by omega
    have o4 : IntKind.i64.wrap (L + (1 : Int)) ≤ (9223372036854775807 : Int) := by omega
    have o5 : LOk L j l n f m g := by assumption
    have o6 : (IntKind.i64.wrap (L + (1 : Int))).toNat = (L + (1 : Int)).toNat := by omega
    try have := IntWalk.i64_in (L - 1) (by omega)
    have o7 : (-1 : Int) ≤ IntKind.i64.wrap (L - (1 : Int)) := by omega
    have o8 : IntKind.i64.wrap (L - (1 : Int)) ≤ L - (1 : Int) := by omega
    have o9 : (List.replicate (IntKind.i64.wrap (L + (1 : Int))).toNat (0 : Int)).length = (IntKind.i64.wrap (L + (1 : Int))).toNat := by simp_all
    cases h2 : L11a.run L j l n f m g (IntKind.i64.wrap (L - 1)) (List.replicate (IntKind.i64.wrap (L + 1)).toNat 0) with
    | e0 h2d0 =>
      try have := bd_ok (by assumption) (by assumption) (by assumption)
      try have := bd_len (by assumption)
      try have := bd_fok (by assumption) (by assumption)
      try have := L11a.leqR0_0 _ _ _ _ _ _ _ (by assumption); (try simp only [List.length_replicate] at this)
      try have := L11c.lenR0_1 (by assumption); (try simp only [List.length_nil] at this)
      try have := IntWalk.i64_in (L + 1) (by omega)
      have o10 : (0 : Int) < (↑(IntKind.i64.wrap (L + (1 : Int))).toNat : Int) := by omega
      have o11 : (0 : Nat) < (Col.ints IntKind.i64 h2d0).len := by simp only [Col.len, zero_bool, zero_int, List.length_replicate, List.length_set] at *; omega
      cases h3 : h2d0.getD 0 0 == 0 with
      | true =>
        have h3p := eq_of_beq h3
        exact Ret.val (show (AV.tup [(avInts IntKind.i64 ([] : List Int)), AV.int IntKind.i64 9]) = (AV.tup [(avInts IntKind.i64 (r11.v0 L j l n f m g)), (AV.int IntKind.i64 (r11.v1 L j l n f m g))]) by simp only [r11.v0, r11.v1, h1, h3, h2, cond_true, cond_false]) (Ret.of_run1 mix [(avInts IntKind.i64 ([] : List Int)), AV.int IntKind.i64 9] Try.func11 rfl [.ret (AV.int IntKind.i64 (r32.v L j l n f m g)) (r11.h0 L j l n f m g), .b false, .loop (others 77 [3, 5, 6, 13, 14, 15]) (Exit.exit 0) (L11a.X L j l n f m g (IntKind.i64.wrap (L + 1)).toNat (L11a.O.e0 h2d0)) (L11a.XH L j l n f m g (IntKind.i64.wrap (L + 1)).toNat (L11a.O.e0 h2d0)), .b true] (by simp) (by simp) (kmp (by kernel_rfl) (Ai (r32 (L) (j) (l) (n) (f) o0 (m) (g) o1 (r11.h0 L j l n f m g)) (Ai (show (bnot (r32.v L j l n f m g == 0)) = false by rw [h1]; try rfl) (Ai (Ai (rfl : IntKind.i64.wrap (L + (1 : Int)) = IntKind.i64.wrap (L + (1 : Int))) (Ai o2 (Ai o3 o4))) (Ai (L11a.e0 (L) (j) (l) (n) (f) o0 (m) (g) o1 o5 ((IntKind.i64.wrap (L + 1)).toNat) o6 (IntKind.i64.wrap (L - 1)) (List.replicate (IntKind.i64.wrap (L + 1)).toNat 0) (Ai (Ai o7 o8) o9) h2d0 h2) (Ai (Ai (show (0 : Int) ≤ (0 : Int) by decide) o10) (Ai (Ai (rfl : (IntKind.i64.wrap (L + (1 : Int))).toNat = (IntKind.i64.wrap (L + (1 : Int))).toNat) (Ai (show (1 : Nat) = (1 : Nat) by decide) o11)) (Ai h3 (Ai (rfl : ((avInts IntKind.i64 ([] : List Int))) = ((avInts IntKind.i64 ([] : List Int)))) (Ai (rfl : (AV.int IntKind.i64 9) = (AV.int IntKind.i64 9)) trivial)))))))))) h)
      | false =>
        have h3p := ne_of_beq_false h3
        try have := bd_ok (by assumption) (by assumption) (by assumption)
        try have := bd_len (by assumption)
        try have := bd_fok (by assumption) (by assumption)
        try have := L11a.leqR0_0 _ _ _ _ _ _ _ (by assumption); (try simp only [List.length_replicate] at this)
        try have := L11c.lenR0_1 (by assumption); (try simp only [List.length_nil] at this)
        have o12 : FOk L j l n f m g h2d0 := by simp_all
        have o13 : h2d0.length = (L + (1 : Int)).toNat := by omega
        have o14 : (0 : Int) ≥ L ∨ h2d0.getD (0 : Nat) (0 : Int) > (0 : Int) := by first | assumption | omega | (apply first_pos <;> first | assumption | omega) | (simp_all; done)
        cases h4 : L11c.run L j h2d0 0 0 [] with
        | e0 h4d0 h4d1 =>
          try have := bd_ok (by assumption) (by assumption) (by assumption)
          try have := bd_len (by assumption)
          try have := bd_fok (by assumption) (by assumption)
          try have := L11a.leqR0_0 _ _ _ _ _ _ _ (by assumption); (try simp only [List.length_replicate] at this)
          try have := L11c.lenR0_1 (by assumption); (try simp only [List.length_nil] at this)
          have o15 : (0 : Nat) + h4d1.length ≤ (Col.ints IntKind.i64 h4d1).len := by simp [Col.len]
          exact Ret.of_run1 mix [(avInts IntKind.i64 (r11.v0 L j l n f m g)), (AV.int IntKind.i64 (r11.v1 L j l n f m g))] Try.func11 rfl [.ret (AV.int IntKind.i64 (r32.v L j l n f m g)) (r11.h0 L j l n f m g), .b false, .loop (others 77 [3, 5, 6, 13, 14, 15]) (Exit.exit 0) (L11a.X L j l n f m g (IntKind.i64.wrap (L + 1)).toNat (L11a.O.e0 h2d0)) (L11a.XH L j l n f m g (IntKind.i64.wrap (L + 1)).toNat (L11a.O.e0 h2d0)), .b false, .virt [] [(none, 18, 1, Col.ints IntKind.i64 [])], .loop (others 77 [5, 6, 13, 18, 19]) (Exit.exit 4) (L11c.X L j l n f m g (IntKind.i64.wrap (L + 1)).toNat h2d0 (L11c.O.e0 h4d0 h4d1)) (L11c.XH L j l n f m g (IntKind.i64.wrap (L + 1)).toNat h2d0 (L11c.O.e0 h4d0 h4d1))] (by simp) (by simp) (kmp (by kernel_rfl) (Ai (r32 (L) (j) (l) (n) (f) o0 (m) (g) o1 (r11.h0 L j l n f m g)) (Ai (show (bnot (r32.v L j l n f m g == 0)) = false by rw [h1]; try rfl) (Ai (Ai (rfl : IntKind.i64.wrap (L + (1 : Int)) = IntKind.i64.wrap (L + (1 : Int))) (Ai o2 (Ai o3 o4))) (Ai (L11a.e0 (L) (j) (l) (n) (f) o0 (m) (g) o1 o5 ((IntKind.i64.wrap (L + 1)).toNat) o6 (IntKind.i64.wrap (L - 1)) (List.replicate (IntKind.i64.wrap (L + 1)).toNat 0) (Ai (Ai o7 o8) o9) h2d0 h2) (Ai (Ai (show (0 : Int) ≤ (0 : Int) by decide) o10) (Ai (Ai (rfl : (IntKind.i64.wrap (L + (1 : Int))).toNat = (IntKind.i64.wrap (L + (1 : Int))).toNat) (Ai (show (1 : Nat) = (1 : Nat) by decide) o11)) (Ai h3 (Ai (Ai (rfl : AV.snil = AV.snil) (Ai (rfl : (0 : Nat) = 0) trivial)) (Ai (L11c.e0 (L) (j) (l) (n) (f) o0 (m) (g) o1 o5 ((IntKind.i64.wrap (L + 1)).toNat) (h2d0) o12 o6 o13 (0) (0) ([]) (Ai (Ai (show (0 : Int) ≤ (0 : Int) by decide) (show (0 : Int) ≤ (41000 : Int) by decide)) (Ai o14 (show (0 : Int) ≤ (0 : Int) by decide))) h4d0 h4d1 h4) (Ai (Ai (rfl : h4d0 = h4d0) (Ai (show (1 : Nat) = (1 : Nat) by decide) (Ai o15 (show ((avInts IntKind.i64 h4d1)) = ((avInts IntKind.i64 (r11.v0 L j l n f m g))) by simp only [r11.v0, r11.v1, h1, h3, h2, h4, cond_true, cond_false])))) (Ai (show (AV.int IntKind.i64 0) = ((AV.int IntKind.i64 (r11.v1 L j l n f m g))) by simp only [r11.v0, r11.v1, h1, h3, h2, h4, cond_true, cond_false]) trivial)))))))))))) h
  | false =>
    have h1p := ne_of_beq_false h1
    exact Ret.val (show (AV.tup [(avInts IntKind.i64 ([] : List Int)), AV.int IntKind.i64 (r32.v L j l n f m g)]) = (AV.tup [(avInts IntKind.i64 (r11.v0 L j l n f m g)), (AV.int IntKind.i64 (r11.v1 L j l n f m g))]) by simp only [r11.v0, r11.v1, h1, cond_true, cond_false]) (Ret.of_run1 mix [(avInts IntKind.i64 ([] : List Int)), AV.int IntKind.i64 (r32.v L j l n f m g)] Try.func11 rfl [.ret (AV.int IntKind.i64 (r32.v L j l n f m g)) (r11.h0 L j l n f m g), .b true] (by simp) (by simp) (kmp (by kernel_rfl) (Ai (r32 (L) (j) (l) (n) (f) o0 (m) (g) o1 (r11.h0 L j l n f m g)) (Ai (show (bnot (r32.v L j l n f m g == 0)) = true by rw [h1]; try rfl) (Ai (rfl : ((avInts IntKind.i64 ([] : List Int))) = ((avInts IntKind.i64 ([] : List Int)))) (Ai (rfl : (AV.int IntKind.i64 (r32.v L j l n f m g)) = (AV.int IntKind.i64 (r32.v L j l n f m g))) trivial))))) h)
end Go.Proofs.Ytjdbmmilcihpoaa
open Go
namespace Go.Proofs.Ytjdbmmilcihpoaa
set_option linter.unusedSimpArgs false
set_option linter.unusedVariables false
set_option maxHeartbeats 0
set_option maxRecDepth 100000
inductive L12ab.O where
  | e0 (a0 : List Bool)
noncomputable def L12ab.T (L : Int) (j : Int) (l : Int) (n : Nat) (f : Nat → Int) (m : Nat) (g : Nat → Int) (av14 : Nat) (al14 : List Int) (a35 : Int) (ar0 : List Bool) (b48 : Int) (br0 : List Bool) : List AV := mkT 84 [(0, AV.int IntKind.i64 L), (1, AV.int IntKind.i64 j), (2, AV.int IntKind.i64 l), (3, AV.sl 1 n fun (i : Nat) => AV.int IntKind.i64 (f i)), (4, AV.sl 1 m fun (i : Nat) => AV.int IntKind.i64 (g i)), (13, AV.ms 0 L.toNat 1 0 L.toNat), (14, AV.ms 1 (av14 + 1) 1 0 ((Col.ints IntKind.i64 al14).join AppMode.one 1 fun (a : Nat) => (Col.ofList [AV.int IntKind.i64 a35]).get a).len), (15, AV.int IntKind.i64 a35), (33, AV.ms 0 L.toNat 1 0 L.toNat), (34, AV.int IntKind.i64 (↑L.toNat : Int)), (35, AV.int IntKind.i64 a35), (46, AV.sl 1 n fun (i : Nat) => AV.int IntKind.i64 (f i)), (47, AV.int IntKind.i64 (↑n : Int)), (48, AV.int IntKind.i64 b48)]
noncomputable def L12ab.H (L : Int) (j : Int) (l : Int) (n : Nat) (f : Nat → Int) (m : Nat) (g : Nat → Int) (av14 : Nat) (al14 : List Int) (a35 : Int) (ar0 : List Bool) (b48 : Int) (br0 : List Bool) : AHeap := [AObj.row 1 L.toNat (Col.bools br0), AObj.row 1 (av14 + 1) (Col.ints IntKind.i64 (al14 ++ [a35]))]
def L12ab.inv (L : Int) (j : Int) (l : Int) (n : Nat) (f : Nat → Int) (m : Nat) (g : Nat → Int) (av14 : Nat) (al14 : List Int) (a35 : Int) (ar0 : List Bool) (b48 : Int) (br0 : List Bool) : Prop := 0 ≤ b48 ∧ (b48 ≤ (↑n : Int) ∨ b48 ≤ 0) ∧ br0.length = ar0.length
noncomputable def L12ab.mu (L : Int) (j : Int) (l : Int) (n : Nat) (f : Nat → Int) (m : Nat) (g : Nat → Int) (av14 : Nat) (al14 : List Int) (a35 : Int) (ar0 : List Bool) (b48 : Int) (br0 : List Bool) : Nat := ((↑n : Int) - b48).toNat
noncomputable def L12ab.E : L12ab.O → Exit
  | .e0 a0 => Exit.exit 2
noncomputable def L12ab.X (L : Int) (j : Int) (l : Int) (n : Nat) (f : Nat → Int) (m : Nat) (g : Nat → Int) (av14 : Nat) (al14 : List Int) (a35 : Int) (ar0 : List Bool) : L12ab.O → List AV
  | .e0 a0 => mkT 84 [(0, (AV.int IntKind.i64 L)), (1, (AV.int IntKind.i64 j)), (2, (AV.int IntKind.i64 l)), (3, (AV.sl 1 n fun (i : Nat) => AV.int IntKind.i64 (f i))), (4, (AV.sl 1 m fun (i : Nat) => AV.int IntKind.i64 (g i))), (13, (AV.ms 0 L.toNat 1 0 L.toNat)), (14, (AV.ms 1 (av14 + 1) 1 0 (al14 ++ [a35]).length)), (33, (AV.ms 0 L.toNat 1 0 L.toNat)), (34, (AV.int IntKind.i64 (↑L.toNat : Int))), (35, (AV.int IntKind.i64 a35))]
noncomputable def L12ab.XH (L : Int) (j : Int) (l : Int) (n : Nat) (f : Nat → Int) (m : Nat) (g : Nat → Int) (av14 : Nat) (al14 : List Int) (a35 : Int) (ar0 : List Bool) : L12ab.O → AHeap
  | .e0 a0 => ((AObj.row 1 (L.toNat) (Col.bools a0)) :: ([AObj.row 1 (av14 + 1) (Col.ints IntKind.i64 (al14 ++ [a35]))]))
noncomputable def L12ab.N (L : Int) (j : Int) (l : Int) (n : Nat) (f : Nat → Int) (m : Nat) (g : Nat → Int) (a35 : Int) : Nat → Int → (List Bool) → L12ab.O
  | 0, _, br0 => .e0 br0
  | k_ + 1, b48, br0 => (bif decide (b48 < (↑n : Int)) then (bif decide (IntKind.i64.wrap (IntKind.i64.wrap (a35 + f b48.toNat) + j) < L) then (bif br0.getD (0 + (IntKind.i64.wrap (IntKind.i64.wrap (a35 + f b48.toNat) + j)).toNat) false then (L12ab.N L j l n f m g a35 k_ (IntKind.i64.wrap (b48 + 1)) (br0)) else (bif r34.v (IntKind.i64.wrap (a35 + f b48.toNat)) j l m g then (L12ab.N L j l n f m g a35 k_ (IntKind.i64.wrap (b48 + 1)) (br0.set (0 + (IntKind.i64.wrap (IntKind.i64.wrap (a35 + f b48.toNat) + j)).toNat) true)) else (L12ab.N L j l n f m g a35 k_ (IntKind.i64.wrap (b48 + 1)) (br0)))) else (L12ab.N L j l n f m g a35 k_ (IntKind.i64.wrap (b48 + 1)) (br0))) else (.e0 (br0)))
noncomputable def L12ab.run (L : Int) (j : Int) (l : Int) (n : Nat) (f : Nat → Int) (m : Nat) (g : Nat → Int) (a35 : Int) (b48 : Int) (br0 : List Bool) : L12ab.O := L12ab.N L j l n f m g a35 ((((↑n : Int) - b48).toNat) + 1) b48 br0
theorem L12ab.nx (L : Int) (j : Int) (l : Int) (n : Nat) (f : Nat → Int) (m : Nat) (g : Nat → Int) (av14 : Nat) (al14 : List Int) (a35 : Int) (ar0 : List Bool) {k_ : Nat} {z_ : Int × (List Bool)} {h_ : AHeap} (s_ : Int × (List Bool)) (h1 : L12ab.inv L j l n f m g av14 al14 a35 ar0 s_.1 s_.2) (h2 : L12ab.mu L j l n f m g av14 al14 a35 ar0 s_.1 s_.2 < L12ab.mu L j l n f m g av14 al14 a35 ar0 z_.1 z_.2) (h3 : L12ab.N L j l n f m g a35 k_ s_.1 s_.2 = L12ab.N L j l n f m g a35 (k_ + 1) z_.1 z_.2) (h4 : PopOk (L12ab.H L j l n f m g av14 al14 a35 ar0 z_.1 z_.2) h_ (L12ab.T L j l n f m g av14 al14 a35 ar0 s_.1 s_.2) (L12ab.H L j l n f m g av14 al14 a35 ar0 s_.1 s_.2)) : LNextP (fun (z_ : Int × (List Bool)) => L12ab.T L j l n f m g av14 al14 a35 ar0 z_.1 z_.2) (fun (z_ : Int × (List Bool)) => L12ab.H L j l n f m g av14 al14 a35 ar0 z_.1 z_.2) (fun (z_ : Int × (List Bool)) => L12ab.inv L j l n f m g av14 al14 a35 ar0 z_.1 z_.2) (fun (z_ : Int × (List Bool)) => L12ab.mu L j l n f m g av14 al14 a35 ar0 z_.1 z_.2) (fun (k_ : Nat) (z_ : Int × (List Bool)) => L12ab.N L j l n f m g a35 k_ z_.1 z_.2) k_ z_ (L12ab.T L j l n f m g av14 al14 a35 ar0 s_.1 s_.2) h_ := LNextP.mk (Tm := (fun (z_ : Int × (List Bool)) => L12ab.T L j l n f m g av14 al14 a35 ar0 z_.1 z_.2)) (Hp := (fun (z_ : Int × (List Bool)) => L12ab.H L j l n f m g av14 al14 a35 ar0 z_.1 z_.2)) (inv := (fun (z_ : Int × (List Bool)) => L12ab.inv L j l n f m g av14 al14 a35 ar0 z_.1 z_.2)) (mu := (fun (z_ : Int × (List Bool)) => L12ab.mu L j l n f m g av14 al14 a35 ar0 z_.1 z_.2)) (l := (fun (k_ : Nat) (z_ : Int × (List Bool)) => L12ab.N L j l n f m g a35 k_ z_.1 z_.2)) s_ h1 h2 h3 h4
theorem L12ab.en (L : Int) (j : Int) (l : Int) (n : Nat) (f : Nat → Int) (m : Nat) (g : Nat → Int) (av14 : Nat) (al14 : List Int) (a35 : Int) (ar0 : List Bool) {k_ : Nat} {z_ : Int × (List Bool)} {h_ : AHeap} (o_ : L12ab.O) (h3 : L12ab.N L j l n f m g a35 (k_ + 1) z_.1 z_.2 = o_) (h4 : PopOk (L12ab.H L j l n f m g av14 al14 a35 ar0 z_.1 z_.2) h_ (L12ab.X L j l n f m g av14 al14 a35 ar0 o_) (L12ab.XH L j l n f m g av14 al14 a35 ar0 o_)) : LEndP (fun (z_ : Int × (List Bool)) => L12ab.H L j l n f m g av14 al14 a35 ar0 z_.1 z_.2) (fun (k_ : Nat) (z_ : Int × (List Bool)) => L12ab.N L j l n f m g a35 k_ z_.1 z_.2) L12ab.E (L12ab.X L j l n f m g av14 al14 a35 ar0) (L12ab.XH L j l n f m g av14 al14 a35 ar0) k_ z_ (L12ab.E o_) (L12ab.X L j l n f m g av14 al14 a35 ar0 o_) h_ := LEndP.mk (Hp := (fun (z_ : Int × (List Bool)) => L12ab.H L j l n f m g av14 al14 a35 ar0 z_.1 z_.2)) (l := (fun (k_ : Nat) (z_ : Int × (List Bool)) => L12ab.N L j l n f m g a35 k_ z_.1 z_.2)) (oE := L12ab.E) (oT := L12ab.X L j l n f m g av14 al14 a35 ar0) (oH := L12ab.XH L j l n f m g av14 al14 a35 ar0) o_ h3 h4
noncomputable abbrev L12ab.h0 (L : Int) (j : Int) (l : Int) (n : Nat) (f : Nat → Int) (m : Nat) (g : Nat → Int) (av14 : Nat) (al14 : List Int) (a35 : Int) (ar0 : List Bool) (b48 : Int) (br0 : List Bool) : AHeap := ([AObj.row 1 L.toNat (Col.bools br0), AObj.row 1 (av14 + 1) (Col.ints IntKind.i64 (al14 ++ [a35]))])
theorem L12ab.spec (L : Int) (j : Int) (l : Int) (n : Nat) (f : Nat → Int) (hn : n ≤ 9223372036854775807) (m : Nat) (g : Nat → Int) (hm : m ≤ 9223372036854775807) (k0_1 : (r32.v L j l n f m g == 0) = true) (p0_1 : r32.v L j l n f m g = 0) (av14 : Nat) (al14 : List Int) (a35 : Int) (ar0 : List Bool) (i12a_0 : 0 ≤ a35) (i12a_1 : a35 ≤ (↑L.toNat : Int) ∨ a35 ≤ 0) (i12a_2 : (↑al14.length : Int) ≤ 1000000 * (a35 - 0)) (i12a_3 : ar0.length = ((List.replicate L.toNat false).set 0 true).length) (k1_1 : decide (a35 < (↑L.toNat : Int)) = true) (p1_1 : a35 < (↑L.toNat : Int)) (k1_2 : ar0.getD (0 + a35.toNat) false = true) (k_ : Nat) (z_ : Int × (List Bool)) (hi_ : L12ab.inv L j l n f m g av14 al14 a35 ar0 z_.1 z_.2) (hm_ : L12ab.mu L j l n f m g av14 al14 a35 ar0 z_.1 z_.2 < k_) : LoopTo Try.prog (loopN Try.f12 1) (L12ab.T L j l n f m g av14 al14 a35 ar0 z_.1 z_.2) (L12ab.H L j l n f m g av14 al14 a35 ar0 z_.1 z_.2) (L12ab.E (L12ab.N L j l n f m g a35 k_ z_.1 z_.2)) (L12ab.X L j l n f m g av14 al14 a35 ar0 (L12ab.N L j l n f m g a35 k_ z_.1 z_.2)) (L12ab.XH L j l n f m g av14 al14 a35 ar0 (L12ab.N L j l n f m g a35 k_ z_.1 z_.2)) := by
  refine LoopTo.fuelP mix (fun (z_ : Int × (List Bool)) => L12ab.T L j l n f m g av14 al14 a35 ar0 z_.1 z_.2) (fun (z_ : Int × (List Bool)) => L12ab.H L j l n f m g av14 al14 a35 ar0 z_.1 z_.2) (fun (z_ : Int × (List Bool)) => L12ab.inv L j l n f m g av14 al14 a35 ar0 z_.1 z_.2) (fun (z_ : Int × (List Bool)) => L12ab.mu L j l n f m g av14 al14 a35 ar0 z_.1 z_.2) (fun (k_ : Nat) (z_ : Int × (List Bool)) => L12ab.N L j l n f m g a35 k_ z_.1 z_.2) L12ab.E (L12ab.X L j l n f m g av14 al14 a35 ar0) (L12ab.XH L j l n f m g av14 al14 a35 ar0) (others 84 [0, 1, 2, 3, 4, 13, 14, 15, 33, 34, 35, 46, 47, 48]) (others 84 [10, 11]) (others 84 [0, 1, 2, 3, 4, 13, 14, 33, 34, 35]) ?_ k_ z_ hi_ hm_
  clear hm_ hi_ z_ k_
  intro k_ z_ hinv hmu
  obtain ⟨b48, br0⟩ := z_
  have hinv : 0 ≤ b48 ∧ (b48 ≤ (↑n : Int) ∨ b48 ≤ 0) ∧ br0.length = ar0.length := hinv
  have hmu : (((↑n : Int) - b48).toNat) < k_ + 1 := hmu
  cases h1 : decide (b48 < (↑n : Int)) with
  | true =>
    have h1p := of_decide_eq_true h1
    try have := bd_ok (by assumption) (by assumption) (by assumption)
    try have := bd_len (by assumption)
    try have := bd_sz (by assumption) (by assumption) (by omega)
    have o0 : (0 : Int) ≤ b48 := by omega
    have o1 : b48 < (↑n : Int) := by assumption
    cases h2 : decide (IntKind.i64.wrap (IntKind.i64.wrap (a35 + f b48.toNat) + j) < L) with
    | true =>
      have h2p := of_decide_eq_true h2
      try have := bd_ok (by assumption) (by assumption) (by assumption)
      try have := bd_len (by assumption)
      try have := bd_sz (by assumption) (by assumption) (by assumption)
      try have := IntWalk.i64_in (a35 + f b48.toNat) (by omega)
      try have := IntWalk.i64_in (IntKind.i64.wrap (a35 + f b48.toNat) + j) (by omega)
      have o2 : (0 : Int) ≤ IntKind.i64.wrap (IntKind.i64.wrap (a35 + f b48.toNat) + j) := by first | assumption | omega | (apply wr_0 <;> first | assumption | omega) | (simp_all; done)
      have o3 : IntKind.i64.wrap (IntKind.i64.wrap (a35 + f b48.toNat) + j) < (↑L.toNat : Int) := by omega
      have o4 : (0 : Nat) + (IntKind.i64.wrap (IntKind.i64.wrap (a35 + f b48.toNat) + j)).toNat < (Col.bools br0).len := by simp only [Col.len, zero_bool, zero_int, List.length_replicate, List.length_set] at *; omega
      cases h3 : br0.getD (0 + (IntKind.i64.wrap (IntKind.i64.wrap (a35 + f b48.toNat) + j)).toNat) false with
      | true =>
        try have := bd_ok (by assumption) (by assumption) (by assumption)
        try have := bd_len (by assumption)
        try have := bd_sz (by assumption) (by assumption) (by assumption)
        try have := IntWalk.i64_in (b48 + 1) (by omega)
        have o5 : (0 : Int) ≤ IntKind.i64.wrap (b48 + (1 : Int)) := by omega
        have o6 : IntKind.i64.wrap (b48 + (1 : Int)) ≤ (↑n : Int) ∨ IntKind.i64.wrap (b48 + (1 : Int)) ≤ (0 : Int) := by omega
        have o7 : br0.length = ar0.length := by omega
        have o8 : ((↑n : Int) - IntKind.i64.wrap (b48 + (1 : Int))).toNat < ((↑n : Int) - b48).toNat := by omega
        exact ⟨[.b true, .b true, .b true, .b true, .b true, .b true, .b true, .b true, .b true, .b false, .b false, .b false, .b false, .b false, .b false, .b false], kmp (by kernel_rfl) (Ai h1 (Ai (Ai o0 o1) (Ai h2 (Ai h2 (Ai h2 (Ai h2 (Ai h2 (Ai (Ai o2 o3) (Ai h2 (Ai (Ai (rfl : L.toNat = L.toNat) (Ai (show (1 : Nat) = (1 : Nat) by decide) o4)) (Ai h2 (Ai h2 (Ai (show (bnot (br0.getD (0 + (IntKind.i64.wrap (IntKind.i64.wrap (a35 + f b48.toNat) + j)).toNat) false)) = false by rw [h3]; try rfl) (Ai (show (bnot (br0.getD (0 + (IntKind.i64.wrap (IntKind.i64.wrap (a35 + f b48.toNat) + j)).toNat) false)) = false by rw [h3]; try rfl) (Ai (show (bnot (br0.getD (0 + (IntKind.i64.wrap (IntKind.i64.wrap (a35 + f b48.toNat) + j)).toNat) false)) = false by rw [h3]; try rfl) (Ai (show (bnot (br0.getD (0 + (IntKind.i64.wrap (IntKind.i64.wrap (a35 + f b48.toNat) + j)).toNat) false)) = false by rw [h3]; try rfl) (Ai (show (bnot (br0.getD (0 + (IntKind.i64.wrap (IntKind.i64.wrap (a35 + f b48.toNat) + j)).toNat) false)) = false by rw [h3]; try rfl) (Ai (show (bnot (br0.getD (0 + (IntKind.i64.wrap (IntKind.i64.wrap (a35 + f b48.toNat) + j)).toNat) false)) = false by rw [h3]; try rfl) (Ai (rfl : false = false) (L12ab.nx L j l n f m g av14 al14 a35 ar0 (k_ := k_) (z_ := (b48, br0)) ((IntKind.i64.wrap (b48 + 1), br0)) (Ai o5 (Ai o6 o7)) o8 (by simp only [L12ab.N, h1, h2, h3, cond_true, cond_false]) PopOk.same))))))))))))))))))))⟩
      | false =>
        try have := bd_ok (by assumption) (by assumption) (by assumption)
        try have := bd_len (by assumption)
        try have := bd_sz (by assumption) (by assumption) (by assumption)
        have o9 : m ≤ (9223372036854775807 : Nat) := by assumption
        cases h4 : r34.v (IntKind.i64.wrap (a35 + f b48.toNat)) j l m g with
        | true =>
          try have := bd_ok (by assumption) (by assumption) (by assumption)
          try have := bd_len (by assumption)
          try have := bd_sz (by assumption) (by assumption) (by assumption)
          try have := IntWalk.i64_in (b48 + 1) (by omega)
          have o5 : (0 : Int) ≤ IntKind.i64.wrap (b48 + (1 : Int)) := by omega
          have o6 : IntKind.i64.wrap (b48 + (1 : Int)) ≤ (↑n : Int) ∨ IntKind.i64.wrap (b48 + (1 : Int)) ≤ (0 : Int) := by omega
          try have := IntWalk.i64_in (a35 + f b48.toNat) (by omega)
          try have := IntWalk.i64_in (IntKind.i64.wrap (a35 + f b48.toNat) + j) (by omega)
          have o10 : (br0.set ((0 : Nat) + (IntKind.i64.wrap (IntKind.i64.wrap (a35 + f b48.toNat) + j)).toNat) true).length = ar0.length := by simp_all
          have o8 : ((↑n : Int) - IntKind.i64.wrap (b48 + (1 : Int))).toNat < ((↑n : Int) - b48).toNat := by omega
          exact ⟨[.b true, .b true, .b true, .b true, .b true, .b true, .b true, .b true, .b true, .b true, .b true, .b true, .b true, .b true, .ret (AV.bool (r34.v (IntKind.i64.wrap (a35 + f b48.toNat)) j l m g)) (L12ab.h0 L j l n f m g av14 al14 a35 ar0 b48 br0), .b true, .b true], kmp (by kernel_rfl) (Ai h1 (Ai (Ai o0 o1) (Ai h2 (Ai h2 (Ai h2 (Ai h2 (Ai h2 (Ai (Ai o2 o3) (Ai h2 (Ai (Ai (rfl : L.toNat = L.toNat) (Ai (show (1 : Nat) = (1 : Nat) by decide) o4)) (Ai h2 (Ai h2 (Ai (show (bnot (br0.getD (0 + (IntKind.i64.wrap (IntKind.i64.wrap (a35 + f b48.toNat) + j)).toNat) false)) = true by rw [h3]; try rfl) (Ai (show (bnot (br0.getD (0 + (IntKind.i64.wrap (IntKind.i64.wrap (a35 + f b48.toNat) + j)).toNat) false)) = true by rw [h3]; try rfl) (Ai (show (bnot (br0.getD (0 + (IntKind.i64.wrap (IntKind.i64.wrap (a35 + f b48.toNat) + j)).toNat) false)) = true by rw [h3]; try rfl) (Ai (show (bnot (br0.getD (0 + (IntKind.i64.wrap (IntKind.i64.wrap (a35 + f b48.toNat) + j)).toNat) false)) = true by rw [h3]; try rfl) (Ai (show (bnot (br0.getD (0 + (IntKind.i64.wrap (IntKind.i64.wrap (a35 + f b48.toNat) + j)).toNat) false)) = true by rw [h3]; try rfl) (Ai (r34 (IntKind.i64.wrap (a35 + f b48.toNat)) (j) (l) (m) (g) o9 (L12ab.h0 L j l n f m g av14 al14 a35 ar0 b48 br0)) (Ai (show (bnot (br0.getD (0 + (IntKind.i64.wrap (IntKind.i64.wrap (a35 + f b48.toNat) + j)).toNat) false)) = true by rw [h3]; try rfl) (Ai h4 (Ai (Ai o2 o3) (Ai (Ai (rfl : L.toNat = L.toNat) o4) (L12ab.nx L j l n f m g av14 al14 a35 ar0 (k_ := k_) (z_ := (b48, br0)) ((IntKind.i64.wrap (b48 + 1), br0.set (0 + (IntKind.i64.wrap (IntKind.i64.wrap (a35 + f b48.toNat) + j)).toNat) true)) (Ai o5 (Ai o6 o10)) o8 (by simp only [L12ab.N, h1, h2, h3, h4, cond_true, cond_false]) PopOk.same)))))))))))))))))))))))⟩
        | false =>
          try have := bd_ok (by assumption) (by assumption) (by assumption)
          try have := bd_len (by assumption)
          try have := bd_sz (by assumption) (by assumption) (by assumption)
          try have := IntWalk.i64_in (b48 + 1) (by omega)
          have o5 : (0 : Int) ≤ IntKind.i64.wrap (b48 + (1 : Int)) := by omega
          have o6 : IntKind.i64.wrap (b48 + (1 : Int)) ≤ (↑n : Int) ∨ IntKind.i64.wrap (b48 + (1 : Int)) ≤ (0 : Int) := by omega
          have o7 : br0.length = ar0.length := by omega
          have o8 : ((↑n : Int) - IntKind.i64.wrap (b48 + (1 : Int))).toNat < ((↑n : Int) - b48).toNat := by omega
          exact ⟨[.b true, .b true, .b true, .b true, .b true, .b true, .b true, .b true, .b true, .b true, .b true, .b true, .b true, .b true, .ret (AV.bool (r34.v (IntKind.i64.wrap (a35 + f b48.toNat)) j l m g)) (L12ab.h0 L j l n f m g av14 al14 a35 ar0 b48 br0), .b true, .b false], kmp (by kernel_rfl) (Ai h1 (Ai (Ai o0 o1) (Ai h2 (Ai h2 (Ai h2 (Ai h2 (Ai h2 (Ai (Ai o2 o3) (Ai h2 (Ai (Ai (rfl : L.toNat = L.toNat) (Ai (show (1 : Nat) = (1 : Nat) by decide) o4)) (Ai h2 (Ai h2 (Ai (show (bnot (br0.getD (0 + (IntKind.i64.wrap (IntKind.i64.wrap (a35 + f b48.toNat) + j)).toNat) false)) = true by rw [h3]; try rfl) (Ai (show (bnot (br0.getD (0 + (IntKind.i64.wrap (IntKind.i64.wrap (a35 + f b48.toNat) + j)).toNat) false)) = true by rw [h3]; try rfl) (Ai (show (bnot (br0.getD (0 + (IntKind.i64.wrap (IntKind.i64.wrap (a35 + f b48.toNat) + j)).toNat) false)) = true by rw [h3]; try rfl) (Ai (show (bnot (br0.getD (0 + (IntKind.i64.wrap (IntKind.i64.wrap (a35 + f b48.toNat) + j)).toNat) false)) = true by rw [h3]; try rfl) (Ai (show (bnot (br0.getD (0 + (IntKind.i64.wrap (IntKind.i64.wrap (a35 + f b48.toNat) + j)).toNat) false)) = true by rw [h3]; try rfl) (Ai (r34 (IntKind.i64.wrap (a35 + f b48.toNat)) (j) (l) (m) (g) o9 (L12ab.h0 L j l n f m g av14 al14 a35 ar0 b48 br0)) (Ai (show (bnot (br0.getD (0 + (IntKind.i64.wrap (IntKind.i64.wrap (a35 + f b48.toNat) + j)).toNat) false)) = true by rw [h3]; try rfl) (Ai h4 (L12ab.nx L j l n f m g av14 al14 a35 ar0 (k_ := k_) (z_ := (b48, br0)) ((IntKind.i64.wrap (b48 + 1), br0)) (Ai o5 (Ai o6 o7)) o8 (by simp only [L12ab.N, h1, h2, h3, h4, cond_true, cond_false]) PopOk.same)))))))))))))))))))))⟩
    | false =>
      have h2p := of_decide_eq_false h2
      try have := bd_ok (by assumption) (by assumption) (by assumption)
      try have := bd_len (by assumption)
      try have := bd_sz (by assumption) (by assumption) (by assumption)
      try have := IntWalk.i64_in (b48 + 1) (by omega)
      have o5 : (0 : Int) ≤ IntKind.i64.wrap (b48 + (1 : Int)) := by omega
      have o6 : IntKind.i64.wrap (b48 + (1 : Int)) ≤ (↑n : Int) ∨ IntKind.i64.wrap (b48 + (1 : Int)) ≤ (0 : Int) := by omega
      have o7 : br0.length = ar0.length := by omega
      have o8 : ((↑n : Int) - IntKind.i64.wrap (b48 + (1 : Int))).toNat < ((↑n : Int) - b48).toNat := by omega
      exact ⟨[.b true, .b false, .b false, .b false, .b false, .b false, .b false, .b false, .b false, .b false, .b false, .b false, .b false, .b false, .b false, .b false], kmp (by kernel_rfl) (Ai h1 (Ai (Ai o0 o1) (Ai h2 (Ai h2 (Ai h2 (Ai h2 (Ai h2 (Ai h2 (Ai h2 (Ai h2 (Ai (rfl : false = false) (Ai (rfl : false = false) (Ai (rfl : false = false) (Ai (rfl : false = false) (Ai (rfl : false = false) (Ai (rfl : false = false) (Ai (rfl : false = false) (L12ab.nx L j l n f m g av14 al14 a35 ar0 (k_ := k_) (z_ := (b48, br0)) ((IntKind.i64.wrap (b48 + 1), br0)) (Ai o5 (Ai o6 o7)) o8 (by simp only [L12ab.N, h1, h2, cond_true, cond_false]) PopOk.same))))))))))))))))))⟩
  | false =>
    have h1p := of_decide_eq_false h1
    exact ⟨[.b false], kmp (by kernel_rfl) (Ai h1 (L12ab.en L j l n f m g av14 al14 a35 ar0 (k_ := k_) (z_ := (b48, br0)) (.e0 (br0) : L12ab.O) (by simp only [L12ab.N, h1, cond_true, cond_false]) PopOk.same))⟩
theorem L12ab.e0 (L : Int) (j : Int) (l : Int) (n : Nat) (f : Nat → Int) (hn : n ≤ 9223372036854775807) (m : Nat) (g : Nat → Int) (hm : m ≤ 9223372036854775807) (k0_1 : (r32.v L j l n f m g == 0) = true) (p0_1 : r32.v L j l n f m g = 0) (av14 : Nat) (al14 : List Int) (a35 : Int) (ar0 : List Bool) (i12a_0 : 0 ≤ a35) (i12a_1 : a35 ≤ (↑L.toNat : Int) ∨ a35 ≤ 0) (i12a_2 : (↑al14.length : Int) ≤ 1000000 * (a35 - 0)) (i12a_3 : ar0.length = ((List.replicate L.toNat false).set 0 true).length) (k1_1 : decide (a35 < (↑L.toNat : Int)) = true) (p1_1 : a35 < (↑L.toNat : Int)) (k1_2 : ar0.getD (0 + a35.toNat) false = true) (b48 : Int) (br0 : List Bool) (hinv : L12ab.inv L j l n f m g av14 al14 a35 ar0 b48 br0) (a0 : List Bool) (hN : L12ab.run L j l n f m g a35 b48 br0 = (.e0 a0 : L12ab.O)) : LoopTo Try.prog (loopN Try.f12 1) (L12ab.T L j l n f m g av14 al14 a35 ar0 b48 br0) (L12ab.H L j l n f m g av14 al14 a35 ar0 b48 br0) (Exit.exit 2) (L12ab.X L j l n f m g av14 al14 a35 ar0 (.e0 a0 : L12ab.O)) (L12ab.XH L j l n f m g av14 al14 a35 ar0 (.e0 a0 : L12ab.O)) := by
  have h_ := L12ab.spec L j l n f hn m g hm k0_1 p0_1 av14 al14 a35 ar0 i12a_0 i12a_1 i12a_2 i12a_3 k1_1 p1_1 k1_2 ((((↑n : Int) - b48).toNat) + 1) (b48, br0) hinv (Nat.lt_succ_self _)
  unfold L12ab.run at hN
  simp only [hN] at h_
  exact h_
theorem L12ab.len0_0 (L : Int) (j : Int) (l : Int) (n : Nat) (f : Nat → Int) (m : Nat) (g : Nat → Int) (a35 : Int) : ∀ (m_ : Nat) (b48 : Int) (br0 : List Bool) (a0_ : List Bool), L12ab.N L j l n f m g a35 m_ b48 br0 = (.e0 a0_ : L12ab.O) → (a0_).length ≤ (br0).length + m_ := by
  intro m_
  induction m_ with
  | zero =>
    intro b48 br0 a0_ h_
    simp only [L12ab.N] at h_
    first | (cases h_; done) | (cases h_; first | exact Nat.zero_le _ | omega)
  | succ m_ ih_ =>
    intro b48 br0 a0_ h_
    cases h1 : decide (b48 < (↑n : Int)) with
    | true =>
      have h1p := of_decide_eq_true h1
      cases h2 : decide (IntKind.i64.wrap (IntKind.i64.wrap (a35 + f b48.toNat) + j) < L) with
      | true =>
        have h2p := of_decide_eq_true h2
        cases h3 : br0.getD (0 + (IntKind.i64.wrap (IntKind.i64.wrap (a35 + f b48.toNat) + j)).toNat) false with
        | true =>
          (simp only [L12ab.N, h1, h2, h3, cond_true, cond_false] at h_; first | (have := ih_ _ _ _ h_; (try simp only [List.length_append, List.length_cons, List.length_nil, List.length_set] at this); omega) | (cases h_; done) | (cases h_; omega))
        | false =>
          cases h4 : r34.v (IntKind.i64.wrap (a35 + f b48.toNat)) j l m g with
          | true =>
            (simp only [L12ab.N, h1, h2, h3, h4, cond_true, cond_false] at h_; first | (have := ih_ _ _ _ h_; (try simp only [List.length_append, List.length_cons, List.length_nil, List.length_set] at this); omega) | (cases h_; done) | (cases h_; omega))
          | false =>
            (simp only [L12ab.N, h1, h2, h3, h4, cond_true, cond_false] at h_; first | (have := ih_ _ _ _ h_; (try simp only [List.length_append, List.length_cons, List.length_nil, List.length_set] at this); omega) | (cases h_; done) | (cases h_; omega))
      | false =>
        have h2p := of_decide_eq_false h2
        (simp only [L12ab.N, h1, h2, cond_true, cond_false] at h_; first | (have := ih_ _ _ _ h_; (try simp only [List.length_append, List.length_cons, List.length_nil, List.length_set] at this); omega) | (cases h_; done) | (cases h_; omega))
    | false =>
      have h1p := of_decide_eq_false h1
      (simp only [L12ab.N, h1, cond_true, cond_false] at h_; first | (have := ih_ _ _ _ h_; (try simp only [List.length_append, List.length_cons, List.length_nil, List.length_set] at this); omega) | (cases h_; done) | (cases h_; omega))
theorem L12ab.lenR0_0 (L : Int) (j : Int) (l : Int) (n : Nat) (f : Nat → Int) (m : Nat) (g : Nat → Int) (a35 : Int) {b48 : Int} {br0 : List Bool} {a0_ : List Bool} (h_ : L12ab.run L j l n f m g a35 b48 br0 = (.e0 a0_ : L12ab.O)) : (a0_).length ≤ (br0).length + ((((↑n : Int) - b48).toNat) + 1) := L12ab.len0_0 L j l n f m g a35 _ b48 br0 a0_ h_
theorem L12ab.leq0_0 (L : Int) (j : Int) (l : Int) (n : Nat) (f : Nat → Int) (m : Nat) (g : Nat → Int) (a35 : Int) : ∀ (m_ : Nat) (b48 : Int) (br0 : List Bool) (a0_ : List Bool), L12ab.N L j l n f m g a35 m_ b48 br0 = (.e0 a0_ : L12ab.O) → (a0_).length = (br0).length := by
  intro m_
  induction m_ with
  | zero =>
    intro b48 br0 a0_ h_
    simp only [L12ab.N] at h_
    cases h_
    try rfl
  | succ m_ ih_ =>
    intro b48 br0 a0_ h_
    cases h1 : decide (b48 < (↑n : Int)) with
    | true =>
      have h1p := of_decide_eq_true h1
      cases h2 : decide (IntKind.i64.wrap (IntKind.i64.wrap (a35 + f b48.toNat) + j) < L) with
      | true =>
        have h2p := of_decide_eq_true h2
        cases h3 : br0.getD (0 + (IntKind.i64.wrap (IntKind.i64.wrap (a35 + f b48.toNat) + j)).toNat) false with
        | true =>
          (simp only [L12ab.N, h1, h2, h3, cond_true, cond_false] at h_; first | (have q_ := ih_ _ _ _ h_; (try simp only [List.length_set] at *); omega) | (cases h_; done) | (cases h_; first | rfl | simp))
        | false =>
          cases h4 : r34.v (IntKind.i64.wrap (a35 + f b48.toNat)) j l m g with
          | true =>
            (simp only [L12ab.N, h1, h2, h3, h4, cond_true, cond_false] at h_; first | (have q_ := ih_ _ _ _ h_; (try simp only [List.length_set] at *); omega) | (cases h_; done) | (cases h_; first | rfl | simp))
          | false =>
            (simp only [L12ab.N, h1, h2, h3, h4, cond_true, cond_false] at h_; first | (have q_ := ih_ _ _ _ h_; (try simp only [List.length_set] at *); omega) | (cases h_; done) | (cases h_; first | rfl | simp))
      | false =>
        have h2p := of_decide_eq_false h2
        (simp only [L12ab.N, h1, h2, cond_true, cond_false] at h_; first | (have q_ := ih_ _ _ _ h_; (try simp only [List.length_set] at *); omega) | (cases h_; done) | (cases h_; first | rfl | simp))
    | false =>
      have h1p := of_decide_eq_false h1
      (simp only [L12ab.N, h1, cond_true, cond_false] at h_; first | (have q_ := ih_ _ _ _ h_; (try simp only [List.length_set] at *); omega) | (cases h_; done) | (cases h_; first | rfl | simp))
theorem L12ab.leqR0_0 (L : Int) (j : Int) (l : Int) (n : Nat) (f : Nat → Int) (m : Nat) (g : Nat → Int) (a35 : Int) {b48 : Int} {br0 : List Bool} {a0_ : List Bool} (h_ : L12ab.run L j l n f m g a35 b48 br0 = (.e0 a0_ : L12ab.O)) : (a0_).length = (br0).length := L12ab.leq0_0 L j l n f m g a35 _ b48 br0 a0_ h_
inductive L12a.O where
  | e0 (a0 : Nat) (a1 : List Int) (a2 : List Bool)
noncomputable def L12a.T (L : Int) (j : Int) (l : Int) (n : Nat) (f : Nat → Int) (m : Nat) (g : Nat → Int) (av14 : Nat) (al14 : List Int) (a35 : Int) (ar0 : List Bool) : List AV := mkT 84 [(0, AV.int IntKind.i64 L), (1, AV.int IntKind.i64 j), (2, AV.int IntKind.i64 l), (3, AV.sl 1 n fun (i : Nat) => AV.int IntKind.i64 (f i)), (4, AV.sl 1 m fun (i : Nat) => AV.int IntKind.i64 (g i)), (13, AV.ms 0 L.toNat 1 0 L.toNat), (14, AV.ms 1 av14 1 0 al14.length), (33, AV.ms 0 L.toNat 1 0 L.toNat), (34, AV.int IntKind.i64 (↑L.toNat : Int)), (35, AV.int IntKind.i64 a35)]
noncomputable def L12a.H (L : Int) (j : Int) (l : Int) (n : Nat) (f : Nat → Int) (m : Nat) (g : Nat → Int) (av14 : Nat) (al14 : List Int) (a35 : Int) (ar0 : List Bool) : AHeap := [AObj.row 1 L.toNat (Col.bools ar0), AObj.row 1 av14 (Col.ints IntKind.i64 al14)]
def L12a.inv (L : Int) (j : Int) (l : Int) (n : Nat) (f : Nat → Int) (m : Nat) (g : Nat → Int) (av14 : Nat) (al14 : List Int) (a35 : Int) (ar0 : List Bool) : Prop := 0 ≤ a35 ∧ (a35 ≤ (↑L.toNat : Int) ∨ a35 ≤ 0) ∧ (↑al14.length : Int) ≤ 1000000 * (a35 - 0) ∧ ar0.length = ((List.replicate L.toNat false).set 0 true).length
noncomputable def L12a.mu (L : Int) (j : Int) (l : Int) (n : Nat) (f : Nat → Int) (m : Nat) (g : Nat → Int) (av14 : Nat) (al14 : List Int) (a35 : Int) (ar0 : List Bool) : Nat := ((↑L.toNat : Int) - a35).toNat
noncomputable def L12a.E : L12a.O → Exit
  | .e0 a0 a1 a2 => Exit.exit 0
noncomputable def L12a.X (L : Int) (j : Int) (l : Int) (n : Nat) (f : Nat → Int) (m : Nat) (g : Nat → Int) : L12a.O → List AV
  | .e0 a0 a1 a2 => mkT 84 [(14, (AV.ms 1 a0 1 0 (List.length a1)))]
noncomputable def L12a.XH (L : Int) (j : Int) (l : Int) (n : Nat) (f : Nat → Int) (m : Nat) (g : Nat → Int) : L12a.O → AHeap
  | .e0 a0 a1 a2 => ((AObj.row 1 (L.toNat) (Col.bools a2)) :: ((AObj.row 1 a0 (Col.ints IntKind.i64 a1)) :: ([])))
noncomputable def L12a.N (L : Int) (j : Int) (l : Int) (n : Nat) (f : Nat → Int) (m : Nat) (g : Nat → Int) : Nat → Nat → (List Int) → Int → (List Bool) → L12a.O
  | 0, av14, al14, _, ar0 => .e0 av14 al14 ar0
  | k_ + 1, av14, al14, a35, ar0 => (bif decide (a35 < (↑L.toNat : Int)) then (bif ar0.getD (0 + a35.toNat) false then (match L12ab.run L j l n f m g a35 0 ar0 with | .e0 h3d0 => (L12a.N L j l n f m g k_ (av14 + 1) (al14 ++ [a35]) (IntKind.i64.wrap (a35 + 1)) (h3d0)) ) else (L12a.N L j l n f m g k_ (av14) (al14) (IntKind.i64.wrap (a35 + 1)) (ar0))) else (.e0 (av14) (al14) (ar0)))
noncomputable def L12a.run (L : Int) (j : Int) (l : Int) (n : Nat) (f : Nat → Int) (m : Nat) (g : Nat → Int) (av14 : Nat) (al14 : List Int) (a35 : Int) (ar0 : List Bool) : L12a.O := L12a.N L j l n f m g ((((↑L.toNat : Int) - a35).toNat) + 1) av14 al14 a35 ar0
theorem L12a.nx (L : Int) (j : Int) (l : Int) (n : Nat) (f : Nat → Int) (m : Nat) (g : Nat → Int) {k_ : Nat} {z_ : Nat × (List Int) × Int × (List Bool)} {h_ : AHeap} (s_ : Nat × (List Int) × Int × (List Bool)) (h1 : L12a.inv L j l n f m g s_.1 s_.2.1 s_.2.2.1 s_.2.2.2) (h2 : L12a.mu L j l n f m g s_.1 s_.2.1 s_.2.2.1 s_.2.2.2 < L12a.mu L j l n f m g z_.1 z_.2.1 z_.2.2.1 z_.2.2.2) (h3 : L12a.N L j l n f m g k_ s_.1 s_.2.1 s_.2.2.1 s_.2.2.2 = L12a.N L j l n f m g (k_ + 1) z_.1 z_.2.1 z_.2.2.1 z_.2.2.2) (h4 : PopOk (L12a.H L j l n f m g z_.1 z_.2.1 z_.2.2.1 z_.2.2.2) h_ (L12a.T L j l n f m g s_.1 s_.2.1 s_.2.2.1 s_.2.2.2) (L12a.H L j l n f m g s_.1 s_.2.1 s_.2.2.1 s_.2.2.2)) : LNextP (fun (z_ : Nat × (List Int) × Int × (List Bool)) => L12a.T L j l n f m g z_.1 z_.2.1 z_.2.2.1 z_.2.2.2) (fun (z_ : Nat × (List Int) × Int × (List Bool)) => L12a.H L j l n f m g z_.1 z_.2.1 z_.2.2.1 z_.2.2.2) (fun (z_ : Nat × (List Int) × Int × (List Bool)) => L12a.inv L j l n f m g z_.1 z_.2.1 z_.2.2.1 z_.2.2.2) (fun (z_ : Nat × (List Int) × Int × (List Bool)) => L12a.mu L j l n f m g z_.1 z_.2.1 z_.2.2.1 z_.2.2.2) (fun (k_ : Nat) (z_ : Nat × (List Int) × Int × (List Bool)) => L12a.N L j l n f m g k_ z_.1 z_.2.1 z_.2.2.1 z_.2.2.2) k_ z_ (L12a.T L j l n f m g s_.1 s_.2.1 s_.2.2.1 s_.2.2.2) h_ := LNextP.mk (Tm := (fun (z_ : Nat × (List Int) × Int × (List Bool)) => L12a.T L j l n f m g z_.1 z_.2.1 z_.2.2.1 z_.2.2.2)) (Hp := (fun (z_ : Nat × (List Int) × Int × (List Bool)) => L12a.H L j l n f m g z_.1 z_.2.1 z_.2.2.1 z_.2.2.2)) (inv := (fun (z_ : Nat × (List Int) × Int × (List Bool)) => L12a.inv L j l n f m g z_.1 z_.2.1 z_.2.2.1 z_.2.2.2)) (mu := (fun (z_ : Nat × (List Int) × Int × (List Bool)) => L12a.mu L j l n f m g z_.1 z_.2.1 z_.2.2.1 z_.2.2.2)) (l := (fun (k_ : Nat) (z_ : Nat × (List Int) × Int × (List Bool)) => L12a.N L j l n f m g k_ z_.1 z_.2.1 z_.2.2.1 z_.2.2.2)) s_ h1 h2 h3 h4
theorem L12a.en (L : Int) (j : Int) (l : Int) (n : Nat) (f : Nat → Int) (m : Nat) (g : Nat → Int) {k_ : Nat} {z_ : Nat × (List Int) × Int × (List Bool)} {h_ : AHeap} (o_ : L12a.O) (h3 : L12a.N L j l n f m g (k_ + 1) z_.1 z_.2.1 z_.2.2.1 z_.2.2.2 = o_) (h4 : PopOk (L12a.H L j l n f m g z_.1 z_.2.1 z_.2.2.1 z_.2.2.2) h_ (L12a.X L j l n f m g o_) (L12a.XH L j l n f m g o_)) : LEndP (fun (z_ : Nat × (List Int) × Int × (List Bool)) => L12a.H L j l n f m g z_.1 z_.2.1 z_.2.2.1 z_.2.2.2) (fun (k_ : Nat) (z_ : Nat × (List Int) × Int × (List Bool)) => L12a.N L j l n f m g k_ z_.1 z_.2.1 z_.2.2.1 z_.2.2.2) L12a.E (L12a.X L j l n f m g) (L12a.XH L j l n f m g) k_ z_ (L12a.E o_) (L12a.X L j l n f m g o_) h_ := LEndP.mk (Hp := (fun (z_ : Nat × (List Int) × Int × (List Bool)) => L12a.H L j l n f m g z_.1 z_.2.1 z_.2.2.1 z_.2.2.2)) (l := (fun (k_ : Nat) (z_ : Nat × (List Int) × Int × (List Bool)) => L12a.N L j l n f m g k_ z_.1 z_.2.1 z_.2.2.1 z_.2.2.2)) (oE := L12a.E) (oT := L12a.X L j l n f m g) (oH := L12a.XH L j l n f m g) o_ h3 h4
theorem L12a.spec (L : Int) (j : Int) (l : Int) (n : Nat) (f : Nat → Int) (hn : n ≤ 9223372036854775807) (m : Nat) (g : Nat → Int) (hm : m ≤ 9223372036854775807) (k0_1 : (r32.v L j l n f m g == 0) = true) (p0_1 : r32.v L j l n f m g = 0) (k_ : Nat) (z_ : Nat × (List Int) × Int × (List Bool)) (hi_ : L12a.inv L j l n f m g z_.1 z_.2.1 z_.2.2.1 z_.2.2.2) (hm_ : L12a.mu L j l n f m g z_.1 z_.2.1 z_.2.2.1 z_.2.2.2 < k_) : LoopTo Try.prog (loopN Try.f12 0) (L12a.T L j l n f m g z_.1 z_.2.1 z_.2.2.1 z_.2.2.2) (L12a.H L j l n f m g z_.1 z_.2.1 z_.2.2.1 z_.2.2.2) (L12a.E (L12a.N L j l n f m g k_ z_.1 z_.2.1 z_.2.2.1 z_.2.2.2)) (L12a.X L j l n f m g (L12a.N L j l n f m g k_ z_.1 z_.2.1 z_.2.2.1 z_.2.2.2)) (L12a.XH L j l n f m g (L12a.N L j l n f m g k_ z_.1 z_.2.1 z_.2.2.1 z_.2.2.2)) := by
  refine LoopTo.fuelP mix (fun (z_ : Nat × (List Int) × Int × (List Bool)) => L12a.T L j l n f m g z_.1 z_.2.1 z_.2.2.1 z_.2.2.2) (fun (z_ : Nat × (List Int) × Int × (List Bool)) => L12a.H L j l n f m g z_.1 z_.2.1 z_.2.2.1 z_.2.2.2) (fun (z_ : Nat × (List Int) × Int × (List Bool)) => L12a.inv L j l n f m g z_.1 z_.2.1 z_.2.2.1 z_.2.2.2) (fun (z_ : Nat × (List Int) × Int × (List Bool)) => L12a.mu L j l n f m g z_.1 z_.2.1 z_.2.2.1 z_.2.2.2) (fun (k_ : Nat) (z_ : Nat × (List Int) × Int × (List Bool)) => L12a.N L j l n f m g k_ z_.1 z_.2.1 z_.2.2.1 z_.2.2.2) L12a.E (L12a.X L j l n f m g) (L12a.XH L j l n f m g) (others 84 [0, 1, 2, 3, 4, 13, 14, 33, 34, 35]) (others 84 [10, 11]) (others 84 [14]) ?_ k_ z_ hi_ hm_
  clear hm_ hi_ z_ k_
  intro k_ z_ hinv hmu
  obtain ⟨av14, al14, a35, ar0⟩ := z_
  have hinv : 0 ≤ a35 ∧ (a35 ≤ (↑L.toNat : Int) ∨ a35 ≤ 0) ∧ (↑al14.length : Int) ≤ 1000000 * (a35 - 0) ∧ ar0.length = ((List.replicate L.toNat false).set 0 true).length := hinv
  have hmu : (((↑L.toNat : Int) - a35).toNat) < k_ + 1 := hmu
  cases h1 : decide (a35 < (↑L.toNat : Int)) with
  | true =>
    have h1p := of_decide_eq_true h1
    try have := bd_ok (by assumption) (by assumption) (by assumption)
    try have := bd_len (by assumption)
    try have := bd_sz (by assumption) (by first | assumption | omega) (by first | assumption | omega)
    try have := L12ab.lenR0_0 _ _ _ _ _ _ _ _ (by assumption); (try simp only [List.length_nil] at this)
    try have := L12ab.leqR0_0 _ _ _ _ _ _ _ _ (by assumption); (try simp only [List.length_replicate] at this)
    have o0 : (0 : Int) ≤ a35 := by omega
    have o1 : a35 < (↑L.toNat : Int) := by assumption
    have o2 : (0 : Nat) + a35.toNat < (Col.bools ar0).len := by simp only [Col.len, zero_bool, zero_int, List.length_replicate, List.length_set] at *; omega
    cases h2 : ar0.getD (0 + a35.toNat) false with
    | true =>
      try have := bd_ok (by assumption) (by assumption) (by assumption)
      try have := bd_len (by assumption)
      try have := bd_sz (by assumption) (by first | assumption | omega) (by first | assumption | omega)
      try have := L12ab.lenR0_0 _ _ _ _ _ _ _ _ (by assumption); (try simp only [List.length_nil] at this)
      try have := L12ab.leqR0_0 _ _ _ _ _ _ _ _ (by assumption); (try simp only [List.length_replicate] at this)
      have o3 : (al14.length + (1 : Nat)) * (8 : Nat) ≤ (140737488355328 : Nat) := by omega
      have o4 : al14.length = (Col.ints IntKind.i64 al14).len := by rfl
      have o5 : n ≤ (9223372036854775807 : Nat) := by assumption
      have o6 : m ≤ (9223372036854775807 : Nat) := by assumption
      have o7 : (r32.v L j l n f m g == (0 : Int)) = true := by assumption
      have o8 : r32.v L j l n f m g = (0 : Int) := by assumption
      have o9 : a35 ≤ (↑L.toNat : Int) ∨ a35 ≤ (0 : Int) := by omega
      have o10 : (↑al14.length : Int) ≤ (1000000 : Int) * (a35 - (0 : Int)) := by omega
      have o11 : ar0.length = ((List.replicate L.toNat false).set (0 : Nat) true).length := by omega
      have o12 : decide (a35 < (↑L.toNat : Int)) = true := by assumption
      have o13 : ar0.getD ((0 : Nat) + a35.toNat) false = true := by assumption
      have o14 : (0 : Int) ≤ (↑n : Int) ∨ (0 : Int) ≤ (0 : Int) := by omega
      cases h3 : L12ab.run L j l n f m g a35 0 ar0 with
      | e0 h3d0 =>
        try have := bd_ok (by assumption) (by assumption) (by assumption)
        try have := bd_len (by assumption)
        try have := bd_sz (by assumption) (by first | assumption | omega) (by first | assumption | omega)
        try have := L12ab.lenR0_0 _ _ _ _ _ _ _ _ (by assumption); (try simp only [List.length_nil] at this)
        try have := L12ab.leqR0_0 _ _ _ _ _ _ _ _ (by assumption); (try simp only [List.length_replicate] at this)
        try have := IntWalk.i64_in (a35 + 1) (by omega)
        have o15 : (0 : Int) ≤ IntKind.i64.wrap (a35 + (1 : Int)) := by omega
        have o16 : IntKind.i64.wrap (a35 + (1 : Int)) ≤ (↑L.toNat : Int) ∨ IntKind.i64.wrap (a35 + (1 : Int)) ≤ (0 : Int) := by omega
        have o17 : (↑(al14 ++ [a35]).length : Int) ≤ (1000000 : Int) * (IntKind.i64.wrap (a35 + (1 : Int)) - (0 : Int)) := by simp only [List.length_append, List.length_cons, List.length_nil, List.length_map]; omega
        have o18 : h3d0.length = ((List.replicate L.toNat false).set (0 : Nat) true).length := by omega
        have o19 : ((↑L.toNat : Int) - IntKind.i64.wrap (a35 + (1 : Int))).toNat < ((↑L.toNat : Int) - a35).toNat := by omega
        exact ⟨[.b true, .b false, .app .one false, .loop (others 84 [0, 1, 2, 3, 4, 13, 14, 15, 33, 34, 35, 46, 47, 48]) (Exit.exit 2) (L12ab.X L j l n f m g av14 al14 a35 ar0 (L12ab.O.e0 h3d0)) (L12ab.XH L j l n f m g av14 al14 a35 ar0 (L12ab.O.e0 h3d0))], kmp (by kernel_rfl) (Ai h1 (Ai (Ai o0 o1) (Ai (Ai (rfl : L.toNat = L.toNat) (Ai (show (1 : Nat) = (1 : Nat) by decide) o2)) (Ai (show (bnot (ar0.getD (0 + a35.toNat) false)) = false by rw [h2]; try rfl) (Ai (Ai (show (1 : Nat) = (1 : Nat) by decide) (Ai (show AppMode.one.needs 1 fun (a : Nat) => (Col.ofList [AV.int IntKind.i64 a35]).get a by exact ⟨rfl, rfl⟩) (Ai o3 (Ai (rfl : av14 = av14) (Ai (show (0 : Nat) = (0 : Nat) by decide) o4))))) (Ai (L12ab.e0 (L) (j) (l) (n) (f) o5 (m) (g) o6 o7 o8 (av14) (al14) (a35) (ar0) o0 o9 o10 o11 o12 o1 o13 (0) (ar0) (Ai (show (0 : Int) ≤ (0 : Int) by decide) (Ai o14 (rfl : ar0.length = ar0.length))) h3d0 h3) (L12a.nx L j l n f m g (k_ := k_) (z_ := (av14, al14, a35, ar0)) ((av14 + 1, al14 ++ [a35], IntKind.i64.wrap (a35 + 1), h3d0)) (Ai o15 (Ai o16 (Ai o17 o18))) o19 (by simp only [L12a.N, h1, h2, h3, cond_true, cond_false]) PopOk.same)))))))⟩
    | false =>
      try have := bd_ok (by assumption) (by assumption) (by assumption)
      try have := bd_len (by assumption)
      try have := bd_sz (by assumption) (by first | assumption | omega) (by first | assumption | omega)
      try have := L12ab.lenR0_0 _ _ _ _ _ _ _ _ (by assumption); (try simp only [List.length_nil] at this)
      try have := L12ab.leqR0_0 _ _ _ _ _ _ _ _ (by assumption); (try simp only [List.length_replicate] at this)
      try have := IntWalk.i64_in (a35 + 1) (by omega)
      have o15 : (0 : Int) ≤ IntKind.i64.wrap (a35 + (1 : Int)) := by omega
      have o16 : IntKind.i64.wrap (a35 + (1 : Int)) ≤ (↑L.toNat : Int) ∨ IntKind.i64.wrap (a35 + (1 : Int)) ≤ (0 : Int) := by omega
      have o20 : (↑al14.length : Int) ≤ (1000000 : Int) * (IntKind.i64.wrap (a35 + (1 : Int)) - (0 : Int)) := by omega
      have o11 : ar0.length = ((List.replicate L.toNat false).set (0 : Nat) true).length := by omega
      have o19 : ((↑L.toNat : Int) - IntKind.i64.wrap (a35 + (1 : Int))).toNat < ((↑L.toNat : Int) - a35).toNat := by omega
      exact ⟨[.b true, .b true], kmp (by kernel_rfl) (Ai h1 (Ai (Ai o0 o1) (Ai (Ai (rfl : L.toNat = L.toNat) (Ai (show (1 : Nat) = (1 : Nat) by decide) o2)) (Ai (show (bnot (ar0.getD (0 + a35.toNat) false)) = true by rw [h2]; try rfl) (L12a.nx L j l n f m g (k_ := k_) (z_ := (av14, al14, a35, ar0)) ((av14, al14, IntKind.i64.wrap (a35 + 1), ar0)) (Ai o15 (Ai o16 (Ai o20 o11))) o19 (by simp only [L12a.N, h1, h2, cond_true, cond_false]) PopOk.same)))))⟩
  | false =>
    have h1p := of_decide_eq_false h1
    exact ⟨[.b false], kmp (by kernel_rfl) (Ai h1 (L12a.en L j l n f m g (k_ := k_) (z_ := (av14, al14, a35, ar0)) (.e0 (av14) (al14) (ar0) : L12a.O) (by simp only [L12a.N, h1, cond_true, cond_false]) PopOk.same))⟩
theorem L12a.e0 (L : Int) (j : Int) (l : Int) (n : Nat) (f : Nat → Int) (hn : n ≤ 9223372036854775807) (m : Nat) (g : Nat → Int) (hm : m ≤ 9223372036854775807) (k0_1 : (r32.v L j l n f m g == 0) = true) (p0_1 : r32.v L j l n f m g = 0) (av14 : Nat) (al14 : List Int) (a35 : Int) (ar0 : List Bool) (hinv : L12a.inv L j l n f m g av14 al14 a35 ar0) (a0 : Nat) (a1 : List Int) (a2 : List Bool) (hN : L12a.run L j l n f m g av14 al14 a35 ar0 = (.e0 a0 a1 a2 : L12a.O)) : LoopTo Try.prog (loopN Try.f12 0) (L12a.T L j l n f m g av14 al14 a35 ar0) (L12a.H L j l n f m g av14 al14 a35 ar0) (Exit.exit 0) (L12a.X L j l n f m g (.e0 a0 a1 a2 : L12a.O)) (L12a.XH L j l n f m g (.e0 a0 a1 a2 : L12a.O)) := by
  have h_ := L12a.spec L j l n f hn m g hm k0_1 p0_1 ((((↑L.toNat : Int) - a35).toNat) + 1) (av14, al14, a35, ar0) hinv (Nat.lt_succ_self _)
  unfold L12a.run at hN
  simp only [hN] at h_
  exact h_
theorem L12a.leq0_2 (L : Int) (j : Int) (l : Int) (n : Nat) (f : Nat → Int) (m : Nat) (g : Nat → Int) : ∀ (m_ : Nat) (av14 : Nat) (al14 : List Int) (a35 : Int) (ar0 : List Bool) (a0_ : Nat) (a1_ : List Int) (a2_ : List Bool), L12a.N L j l n f m g m_ av14 al14 a35 ar0 = (.e0 a0_ a1_ a2_ : L12a.O) → (a2_).length = (ar0).length := by
  intro m_
  induction m_ with
  | zero =>
    intro av14 al14 a35 ar0 a0_ a1_ a2_ h_
    simp only [L12a.N] at h_
    cases h_
    try rfl
  | succ m_ ih_ =>
    intro av14 al14 a35 ar0 a0_ a1_ a2_ h_
    cases h1 : decide (a35 < (↑L.toNat : Int)) with
    | true =>
      have h1p := of_decide_eq_true h1
      cases h2 : ar0.getD (0 + a35.toNat) false with
      | true =>
        cases h3 : L12ab.run L j l n f m g a35 0 ar0 with
        | e0 h3d0 =>
          (simp only [L12a.N, h1, h2, h3, cond_true, cond_false] at h_; first | (have q_ := ih_ _ _ _ _ _ _ _ h_; (try have := L12ab.lenR0_0 _ _ _ _ _ _ _ _ (by assumption); (try simp only [List.length_nil] at this)); (try have := L12ab.leqR0_0 _ _ _ _ _ _ _ _ (by assumption); (try simp only [List.length_replicate] at this)); (try simp only [List.length_set] at *); omega) | (cases h_; done) | (cases h_; first | rfl | simp))
      | false =>
        (simp only [L12a.N, h1, h2, cond_true, cond_false] at h_; first | (have q_ := ih_ _ _ _ _ _ _ _ h_; (try have := L12ab.lenR0_0 _ _ _ _ _ _ _ _ (by assumption); (try simp only [List.length_nil] at this)); (try have := L12ab.leqR0_0 _ _ _ _ _ _ _ _ (by assumption); (try simp only [List.length_replicate] at this)); (try simp only [List.length_set] at *); omega) | (cases h_; done) | (cases h_; first | rfl | simp))
    | false =>
      have h1p := of_decide_eq_false h1
      (simp only [L12a.N, h1, cond_true, cond_false] at h_; first | (have q_ := ih_ _ _ _ _ _ _ _ h_; (try have := L12ab.lenR0_0 _ _ _ _ _ _ _ _ (by assumption); (try simp only [List.length_nil] at this)); (try have := L12ab.leqR0_0 _ _ _ _ _ _ _ _ (by assumption); (try simp only [List.length_replicate] at this)); (try simp only [List.length_set] at *); omega) | (cases h_; done) | (cases h_; first | rfl | simp))
theorem L12a.leqR0_2 (L : Int) (j : Int) (l : Int) (n : Nat) (f : Nat → Int) (m : Nat) (g : Nat → Int) {av14 : Nat} {al14 : List Int} {a35 : Int} {ar0 : List Bool} {a0_ : Nat} {a1_ : List Int} {a2_ : List Bool} (h_ : L12a.run L j l n f m g av14 al14 a35 ar0 = (.e0 a0_ a1_ a2_ : L12a.O)) : (a2_).length = (ar0).length := L12a.leq0_2 L j l n f m g _ av14 al14 a35 ar0 a0_ a1_ a2_ h_
noncomputable def r12.v0 (L : Int) (j : Int) (l : Int) (n : Nat) (f : Nat → Int) (m : Nat) (g : Nat → Int) : List Int := (bif r32.v L j l n f m g == 0 then (match L12a.run L j l n f m g 0 [] 0 ((List.replicate L.toNat false).set 0 true) with | .e0 h2d0 h2d1 h2d2 => h2d1 ) else ([] : List Int))
noncomputable def r12.v1 (L : Int) (j : Int) (l : Int) (n : Nat) (f : Nat → Int) (m : Nat) (g : Nat → Int) : Int := (bif r32.v L j l n f m g == 0 then (match L12a.run L j l n f m g 0 [] 0 ((List.replicate L.toNat false).set 0 true) with | .e0 h2d0 h2d1 h2d2 => 0 ) else r32.v L j l n f m g)
theorem r12 (L : Int) (j : Int) (l : Int) (n : Nat) (f : Nat → Int) (hn : n ≤ 9223372036854775807) (m : Nat) (g : Nat → Int) (hm : m ≤ 9223372036854775807) (h : AHeap) : Ret Try.prog 12 ([AV.int IntKind.i64 L, AV.int IntKind.i64 j, AV.int IntKind.i64 l, ivs n f, ivs m g]) h (AV.tup [(avInts IntKind.i64 (r12.v0 L j l n f m g)), (AV.int IntKind.i64 (r12.v1 L j l n f m g))]) h := by
  try have := bd_ok (by first | assumption | omega) (by first | assumption | omega) (by first | assumption | omega)
  try have := bd_len (by first | assumption | omega)
  try have := bd_sz (by first | assumption | omega) (by first | assumption | omega) (by first | assumption | omega)
  have o0 : n ≤ (9223372036854775807 : Nat) := by assumption
  have o1 : m ≤ (9223372036854775807 : Nat) := by assumption
  cases h1 : r32.v L j l n f m g == 0 with
  | true =>
    have h1p := eq_of_beq h1
    try have := bd_ok (by assumption) (by assumption) (by assumption)
    try have := bd_len (by assumption)
    try have := bd_sz (by assumption) (by first | assumption | omega) (by first | assumption | omega)
    try have := L12a.leqR0_2 _ _ _ _ _ _ _ (by assumption); (try simp only [List.length_replicate] at this)
    have o2 : (0 : Int) ≤ L := by omega
    have o3 : (1 : Int) * L ≤ (281474976710656 : Int) := by omega
    have o4 : L ≤ (9223372036854775807 : Int) := by omega
    have o5 : (0 : Int) < (↑L.toNat : Int) := by omega
    have o6 : (0 : Nat) < (Col.zero (ofV (Value.bool false)) L.toNat).len := by simp only [Col.len, zero_bool, zero_int, List.length_replicate, List.length_set] at *; omega
    have o7 : (r32.v L j l n f m g == (0 : Int)) = true := by assumption
    have o8 : r32.v L j l n f m g = (0 : Int) := by assumption
    have o9 : (0 : Int) ≤ (↑L.toNat : Int) ∨ (0 : Int) ≤ (0 : Int) := by omega
    cases h2 : L12a.run L j l n f m g 0 [] 0 ((List.replicate L.toNat false).set 0 true) with
    | e0 h2d0 h2d1 h2d2 =>
      try have := bd_ok (by assumption) (by assumption) (by assumption)
      try have := bd_len (by assumption)
      try have := bd_sz (by assumption) (by first | assumption | omega) (by first | assumption | omega)
      try have := L12a.leqR0_2 _ _ _ _ _ _ _ (by assumption); (try simp only [List.length_replicate] at this)
      have o10 : (0 : Nat) + h2d1.length ≤ (Col.ints IntKind.i64 h2d1).len := by simp [Col.len]
      exact Ret.of_run1 mix [(avInts IntKind.i64 (r12.v0 L j l n f m g)), (AV.int IntKind.i64 (r12.v1 L j l n f m g))] Try.func12 rfl [.ret (AV.int IntKind.i64 (r32.v L j l n f m g)) ([]), .b false, .virt [] [(none, 14, 1, Col.ints IntKind.i64 [])], .loop (others 84 [0, 1, 2, 3, 4, 13, 14, 33, 34, 35]) (Exit.exit 0) (L12a.X L j l n f m g (L12a.O.e0 h2d0 h2d1 h2d2)) (L12a.XH L j l n f m g (L12a.O.e0 h2d0 h2d1 h2d2))] (by simp) (by simp) (kmp (by kernel_rfl) (Ai (r32 (L) (j) (l) (n) (f) o0 (m) (g) o1 ([])) (Ai (show (bnot (r32.v L j l n f m g == 0)) = false by rw [h1]; try rfl) (Ai (Ai (rfl : L = L) (Ai o2 (Ai o3 o4))) (Ai (Ai (show (0 : Int) ≤ (0 : Int) by decide) o5) (Ai (Ai (rfl : L.toNat = L.toNat) o6) (Ai (Ai (rfl : AV.snil = AV.snil) (Ai (rfl : (0 : Nat) = 0) trivial)) (Ai (L12a.e0 (L) (j) (l) (n) (f) o0 (m) (g) o1 o7 o8 (0) ([]) (0) ((List.replicate L.toNat false).set 0 true) (Ai (show (0 : Int) ≤ (0 : Int) by decide) (Ai o9 (Ai (show (0 : Int) ≤ (0 : Int) by decide) (rfl : ((List.replicate L.toNat false).set (0 : Nat) true).length = ((List.replicate L.toNat false).set (0 : Nat) true).length)))) h2d0 h2d1 h2d2 h2) (Ai (Ai (rfl : h2d0 = h2d0) (Ai (show (1 : Nat) = (1 : Nat) by decide) (Ai o10 (show ((avInts IntKind.i64 h2d1)) = ((avInts IntKind.i64 (r12.v0 L j l n f m g))) by simp only [r12.v0, r12.v1, h1, h2, cond_true, cond_false])))) (Ai (show (AV.int IntKind.i64 0) = ((AV.int IntKind.i64 (r12.v1 L j l n f m g))) by simp only [r12.v0, r12.v1, h1, h2, cond_true, cond_false]) trivial)))))))))) h
  | false =>
    have h1p := ne_of_beq_false h1
    exact Ret.val (show (AV.tup [(avInts IntKind.i64 ([] : List Int)), AV.int IntKind.i64 (r32.v L j l n f m g)]) = (AV.tup [(avInts IntKind.i64 (r12.v0 L j l n f m g)), (AV.int IntKind.i64 (r12.v1 L j l n f m g))]) by simp only [r12.v0, r12.v1, h1, cond_true, cond_false]) (Ret.of_run1 mix [(avInts IntKind.i64 ([] : List Int)), AV.int IntKind.i64 (r32.v L j l n f m g)] Try.func12 rfl [.ret (AV.int IntKind.i64 (r32.v L j l n f m g)) ([]), .b true] (by simp) (by simp) (kmp (by kernel_rfl) (Ai (r32 (L) (j) (l) (n) (f) o0 (m) (g) o1 ([])) (Ai (show (bnot (r32.v L j l n f m g == 0)) = true by rw [h1]; try rfl) (Ai (rfl : ((avInts IntKind.i64 ([] : List Int))) = ((avInts IntKind.i64 ([] : List Int)))) (Ai (rfl : (AV.int IntKind.i64 (r32.v L j l n f m g)) = (AV.int IntKind.i64 (r32.v L j l n f m g))) trivial))))) h)
end Go.Proofs.Ytjdbmmilcihpoaa
open Go
namespace Go.Proofs.Ytjdbmmilcihpoaa
set_option linter.unusedSimpArgs false
set_option linter.unusedVariables false
set_option maxHeartbeats 0
set_option maxRecDepth 100000
def noI (_ : Nat) : Int := 0
theorem nil_imp : Imp AV.snil (ivs 0 noI) := fun m Mut w v h => by cases h with | snil a => exact .sl0 _ _ _ _
theorem s11 (L j l : Int) (n : Nat) (f : Nat → Int) (hn : n ≤ 9223372036854775807) (h : AHeap) : Ret Try.prog 11 [AV.int .i64 L, .int .i64 j, .int .i64 l, ivs n f, AV.snil] h (AV.tup [(avInts IntKind.i64 (r11.v0 L j l n f 0 noI)), (AV.int IntKind.i64 (r11.v1 L j l n f 0 noI))]) h :=
  (r11 L j l n f hn 0 noI (by omega) h).imp (.cons (.refl _) (.cons (.refl _) (.cons (.refl _) (.cons (.refl _) (.cons nil_imp .nil)))))
theorem s12 (L j l : Int) (n : Nat) (f : Nat → Int) (hn : n ≤ 9223372036854775807) (h : AHeap) : Ret Try.prog 12 [AV.int .i64 L, .int .i64 j, .int .i64 l, ivs n f, AV.snil] h (AV.tup [(avInts IntKind.i64 (r12.v0 L j l n f 0 noI)), (AV.int IntKind.i64 (r12.v1 L j l n f 0 noI))]) h :=
  (r12 L j l n f hn 0 noI (by omega) h).imp (.cons (.refl _) (.cons (.refl _) (.cons (.refl _) (.cons (.refl _) (.cons nil_imp .nil)))))
theorem s13 (L j l : Int) (n : Nat) (f : Nat → Int) (hn : n ≤ 9223372036854775807) (k : Nat) (s : Nat → Int) (hk : k ≤ 9223372036854775807) (h : AHeap) : Ret Try.prog 13 [AV.int .i64 L, .int .i64 j, .int .i64 l, ivs n f, AV.snil, ivs k s] h (AV.bool (r13.v L j l n f 0 noI k s)) h :=
  (r13 L j l n f hn 0 noI (by omega) k s hk h).imp (.cons (.refl _) (.cons (.refl _) (.cons (.refl _) (.cons (.refl _) (.cons nil_imp (.cons (.refl _) .nil))))))
noncomputable def r9.v : Bool := 0 == 0
theorem r9 (h : AHeap) : Ret Try.prog 9 ([]) h (AV.bool r9.v) h := by
  exact Ret.of_run1 mix [(AV.bool r9.v)] Try.func9 rfl [.ret (AV.tup [AV.sl 1 3 fun (a : Nat) => AV.int IntKind.i64 ((r11.v0 100 10 20 3 (fun (i : Nat) => (20 :: (fun (x : List Int) => 30 :: x) ((fun (x : List Int) => 40 :: x) [])).getD i 0) 0 noI).getD a 0), AV.int IntKind.i64 0]) ([]), .ret (AV.tup [AV.sl 1 0 fun (a : Nat) => AV.int IntKind.i64 ((r11.v0 100 10 20 3 (fun (i : Nat) => (20 :: (fun (x : List Int) => 30 :: x) ((fun (x : List Int) => 40 :: x) [])).getD i 0) 1 fun (i : Nat) => [60].getD i 0).getD a 0), AV.int IntKind.i64 9]) ([]), .ret (AV.tup [AV.sl 1 2 fun (a : Nat) => AV.int IntKind.i64 ((r12.v0 60 10 0 1 (fun (i : Nat) => [20].getD i 0) 0 noI).getD a 0), AV.int IntKind.i64 0]) ([]), .b true, .b true, .b true, .ret (AV.bool (r17.v 3 (fun (i : Nat) => (r11.v0 100 10 20 3 (fun (i : Nat) => (20 :: (fun (x : List Int) => 30 :: x) ((fun (x : List Int) => 40 :: x) [])).getD i 0) 0 noI).getD i 0) 3 fun (i : Nat) => (20 :: (fun (x : List Int) => 20 :: x) ((fun (x : List Int) => 40 :: x) [])).getD i 0)) ([]), .b true, .b true, .b true, .b true, .b true, .b true, .b true, .b true, .b true, .b true, .ret (AV.bool (r17.v 2 (fun (i : Nat) => (r12.v0 60 10 0 1 (fun (i : Nat) => [20].getD i 0) 0 noI).getD i 0) 2 fun (i : Nat) => (0 :: (fun (x : List Int) => 30 :: x) []).getD i 0)) ([]), .b true, .b true, .b true, .b true, .ret (AV.bool (r13.v 100 10 20 3 (fun (i : Nat) => (20 :: (fun (x : List Int) => 30 :: x) ((fun (x : List Int) => 40 :: x) [])).getD i 0) 0 noI 3 fun (i : Nat) => (40 :: (fun (x : List Int) => 20 :: x) ((fun (x : List Int) => 20 :: x) [])).getD i 0)) ([]), .b true, .b true, .b true, .ret (AV.int IntKind.i64 0) ([]), .b true, .b true] (by simp) (by simp) (kmp (by kernel_rfl) (Ai (s11 (100) (10) (20) (3) (fun (i : Nat) => (20 :: (fun (x : List Int) => 30 :: x) ((fun (x : List Int) => 40 :: x) [])).getD i 0) (show (3 : Nat) ≤ (9223372036854775807 : Nat) by first | decide | exact Int.NonNeg.mk _) ([])) (Ai (r11 (100) (10) (20) (3) (fun (i : Nat) => (20 :: (fun (x : List Int) => 30 :: x) ((fun (x : List Int) => 40 :: x) [])).getD i 0) (show (3 : Nat) ≤ (9223372036854775807 : Nat) by first | decide | exact Int.NonNeg.mk _) (1) (fun (i : Nat) => [60].getD i 0) (show (1 : Nat) ≤ (9223372036854775807 : Nat) by first | decide | exact Int.NonNeg.mk _) ([])) (Ai (s12 (60) (10) (0) (1) (fun (i : Nat) => [20].getD i 0) (show (1 : Nat) ≤ (9223372036854775807 : Nat) by first | decide | exact Int.NonNeg.mk _) ([])) (Ai (rfl : true = true) (Ai (rfl : true = true) (Ai (rfl : true = true) (Ai (r17 (3) (fun (i : Nat) => (r11.v0 100 10 20 3 (fun (i : Nat) => (20 :: (fun (x : List Int) => 30 :: x) ((fun (x : List Int) => 40 :: x) [])).getD i 0) 0 noI).getD i 0) (show (3 : Nat) ≤ (9223372036854775807 : Nat) by first | decide | exact Int.NonNeg.mk _) (3) (fun (i : Nat) => (20 :: (fun (x : List Int) => 20 :: x) ((fun (x : List Int) => 40 :: x) [])).getD i 0) (show (3 : Nat) ≤ (9223372036854775807 : Nat) by first | decide | exact Int.NonNeg.mk _) ([])) (Ai (rfl : true = true) (Ai (rfl : true = true) (Ai (rfl : true = true) (Ai (rfl : true = true) (Ai (rfl : true = true) (Ai (rfl : true = true) (Ai (rfl : true = true) (Ai (rfl : true = true) (Ai (rfl : true = true) (Ai (rfl : true = true) (Ai (r17 (2) (fun (i : Nat) => (r12.v0 60 10 0 1 (fun (i : Nat) => [20].getD i 0) 0 noI).getD i 0) (show (2 : Nat) ≤ (9223372036854775807 : Nat) by first | decide | exact Int.NonNeg.mk _) (2) (fun (i : Nat) => (0 :: (fun (x : List Int) => 30 :: x) []).getD i 0) (show (2 : Nat) ≤ (9223372036854775807 : Nat) by first | decide | exact Int.NonNeg.mk _) ([])) (Ai (rfl : true = true) (Ai (rfl : true = true) (Ai (rfl : true = true) (Ai (rfl : true = true) (Ai (s13 (100) (10) (20) (3) (fun (i : Nat) => (20 :: (fun (x : List Int) => 30 :: x) ((fun (x : List Int) => 40 :: x) [])).getD i 0) (show (3 : Nat) ≤ (9223372036854775807 : Nat) by first | decide | exact Int.NonNeg.mk _) (3) (fun (i : Nat) => (40 :: (fun (x : List Int) => 20 :: x) ((fun (x : List Int) => 20 :: x) [])).getD i 0) (show (3 : Nat) ≤ (9223372036854775807 : Nat) by first | decide | exact Int.NonNeg.mk _) ([])) (Ai (rfl : true = true) (Ai (rfl : true = true) (Ai (rfl : true = true) (Ai (c24w ([])) (Ai (rfl : true = true) (Ai (rfl : true = true) (Ai (show (AV.bool (0 == 0)) = ((AV.bool r9.v)) by first | (simp only [r9.v, cond_true, cond_false]; done) | (try unfold r9.v; try rfl; done) | rfl) trivial))))))))))))))))))))))))))))))) h
end Go.Proofs.Ytjdbmmilcihpoaa
open Go
namespace Go.Proofs.Ytjdbmmilcihpoaa
set_option maxHeartbeats 0
set_option maxRecDepth 100000
set_option linter.unusedVariables false
set_option linter.unusedSimpArgs false
theorem small_n {w : WD} (h : r20.v w = true) : w.n ≤ 10000 := by
  unfold r20.v at h
  by_cases h1 : (w.n : Int) > 30
  · rw [decide_eq_true h1, cond_true] at h
    by_cases h2 : (w.n : Int) ≤ 512
    · rw [decide_eq_true h2] at h; cases h
    · rw [decide_eq_false h2, cond_false] at h
      by_cases h3 : (w.n : Int) > 520
      · rw [decide_eq_true h3] at h; cases h
      · omega
  · omega
end Go.Proofs.Ytjdbmmilcihpoaa
open Go
namespace Go.Proofs.Ytjdbmmilcihpoaa
set_option maxHeartbeats 0
set_option maxRecDepth 100000
set_option linter.unusedVariables false
set_option linter.unusedSimpArgs false
theorem chk0 {w : WD} (h : r20.v w = true) (hnm : w.nm.size ≤ 9223372036854775807) (hg : ∀ i, (w.g i).nm.size ≤ 9223372036854775807) (he : (r21.v w == 0) = true) : (r24.v w == 0) = true := by
  rw [← check_eq (small_n h) hnm hg]; exact he
theorem top0 {w : WD} (h : r20.v w = true) (hnm : w.nm.size ≤ 9223372036854775807) (hg : ∀ i, (w.g i).nm.size ≤ 9223372036854775807) (he : (r21.v w == 0) = true) : r41.v w ≤ 99 := v_top41 (small_n h) (chk0 h hnm hg he)
end Go.Proofs.Ytjdbmmilcihpoaa
open Go
namespace Go.Proofs.Ytjdbmmilcihpoaa
set_option linter.unusedSimpArgs false
set_option linter.unusedVariables false
set_option maxHeartbeats 0
set_option maxRecDepth 100000
noncomputable def r5.v (w : WD) : Bool := (bif r20.v w then (bif r21.v w == 0 then (bif r23.v3 w then (bif v22.v3 w == 0 then (bif v22.v0 w == r23.v0 w then (bif v22.v1 w == r23.v1 w then (bif v22.v2 w == r23.v2 w then true else false) else false) else false) else false) else (bif v22.v3 w == 9 then v22.v0 w == 0 && (fun (q : Bool) => v22.v1 w == 0 && q) ((fun (q : Bool) => v22.v2 w == 0 && q) true) else false)) else true) else true)
noncomputable abbrev r5.h0 (w : WD) : AHeap := ([AObj.var (WD.av w)])
noncomputable abbrev r5.h1 (w : WD) : AHeap := ([AObj.var (WD.av w), AObj.var (AV.agg [AV.int IntKind.i64 (v22.v0 w), AV.int IntKind.i64 (v22.v1 w), AV.int IntKind.i64 (v22.v2 w)])])
theorem r5 (w : WD) (hw : w.n ≤ 9223372036854775807) (hnm : w.nm.size ≤ 9223372036854775807) (hg : ∀ (i : Nat), (w.g i).nm.size ≤ 9223372036854775807) (h : AHeap) : Ret Try.prog 5 ([w.av]) h (AV.bool (r5.v w)) h := by
  have o0 : w.n ≤ (9223372036854775807 : Nat) := by assumption
  cases h1 : r20.v w with
  | true =>
    have o1 : w.n ≤ (10000 : Nat) := by first | assumption | omega | (apply small_n <;> first | assumption | omega) | (exact hg _) | (exact hg _ (by omega)) | (simp_all; done)
    have o2 : w.nm.size ≤ (9223372036854775807 : Nat) := by assumption
    have o3 : ∀ (i : Nat), (w.g i).nm.size ≤ (9223372036854775807 : Nat) := by assumption
    cases h2 : r21.v w == 0 with
    | true =>
      have h2p := eq_of_beq h2
      have o4 : (r24.v w == (0 : Int)) = true := by first | assumption | omega | (apply chk0 <;> first | assumption | omega) | (apply chk1 <;> first | assumption | omega) | (exact hg _) | (exact hg _ (by omega)) | (simp_all; done)
      have o5 : r41.v w ≤ (99 : Int) := by first | assumption | omega | (apply top0 <;> first | assumption | omega) | (exact hg _) | (exact hg _ (by omega)) | (simp_all; done)
      cases h3 : r23.v3 w with
      | true =>
        cases h4 : v22.v3 w == 0 with
        | true =>
          have h4p := eq_of_beq h4
          cases h5 : v22.v0 w == r23.v0 w with
          | true =>
            have h5p := eq_of_beq h5
            cases h6 : v22.v1 w == r23.v1 w with
            | true =>
              have h6p := eq_of_beq h6
              cases h7 : v22.v2 w == r23.v2 w with
              | true =>
                have h7p := eq_of_beq h7
                exact Ret.of_run1 mix [(AV.bool (r5.v w))] Try.func5 rfl [.ret (AV.bool r9.v) (r5.h0 w), .b false, .ret (AV.bool (r20.v w)) (r5.h0 w), .b false, .b false, .ret (AV.int IntKind.i64 (r21.v w)) (r5.h0 w), .b false, .b false, .b false, .ret (AV.tup [AV.agg [AV.int IntKind.i64 (v22.v0 w), AV.int IntKind.i64 (v22.v1 w), AV.int IntKind.i64 (v22.v2 w)], AV.int IntKind.i64 (v22.v3 w)]) (r5.h0 w), .ret (AV.tup [AV.agg [AV.int IntKind.i64 (r23.v0 w), AV.int IntKind.i64 (r23.v1 w), AV.int IntKind.i64 (r23.v2 w)], AV.bool (r23.v3 w)]) (r5.h1 w), .b true, .b true, .b true, .b true, .b true, .b true, .b true, .b true, .b true, .b true, .b true, .b true, .b true, .b true] (by simp) (by simp) (kmp (by kernel_rfl) (Ai (r9 (r5.h0 w)) (Ai (rfl : false = false) (Ai (r20 (w) o0 (r5.h0 w)) (Ai (show (bnot (r20.v w)) = false by rw [h1]; try rfl) (Ai (show (bnot (r20.v w)) = false by rw [h1]; try rfl) (Ai (r21 (w) o1 o2 o3 (r5.h0 w)) (Ai (show (bnot (r20.v w)) = false by rw [h1]; try rfl) (Ai (show (bnot (r20.v w)) = false by rw [h1]; try rfl) (Ai (show (bnot (r21.v w == 0)) = false by rw [h2]; try rfl) (Ai (v22 (w) o1 o2 o3 o4 (r5.h0 w)) (Ai (r23 (w) o1 o5 (r5.h1 w)) (Ai h3 (Ai h3 (Ai h3 (Ai h4 (Ai h4 (Ai h4 (Ai h4 (Ai (show (v22.v0 w == r23.v0 w && (v22.v1 w == r23.v1 w && (v22.v2 w == r23.v2 w && true))) = true by rw [h5, h6, h7]; try rfl) (Ai (show (v22.v0 w == r23.v0 w && (v22.v1 w == r23.v1 w && (v22.v2 w == r23.v2 w && true))) = true by rw [h5, h6, h7]; try rfl) (Ai (show (v22.v0 w == r23.v0 w && (v22.v1 w == r23.v1 w && (v22.v2 w == r23.v2 w && true))) = true by rw [h5, h6, h7]; try rfl) (Ai (show (v22.v0 w == r23.v0 w && (v22.v1 w == r23.v1 w && (v22.v2 w == r23.v2 w && true))) = true by rw [h5, h6, h7]; try rfl) (Ai (show (v22.v0 w == r23.v0 w && (v22.v1 w == r23.v1 w && (v22.v2 w == r23.v2 w && true))) = true by rw [h5, h6, h7]; try rfl) (Ai (show (v22.v0 w == r23.v0 w && (v22.v1 w == r23.v1 w && (v22.v2 w == r23.v2 w && true))) = true by rw [h5, h6, h7]; try rfl) (Ai (show (v22.v0 w == r23.v0 w && (v22.v1 w == r23.v1 w && (v22.v2 w == r23.v2 w && true))) = true by rw [h5, h6, h7]; try rfl) (Ai (show (AV.bool true) = ((AV.bool (r5.v w))) by simp only [r5.v, h1, h2, h3, h4, h5, h6, h7, cond_true, cond_false]) trivial))))))))))))))))))))))))))) h
              | false =>
                have h7p := ne_of_beq_false h7
                exact Ret.of_run1 mix [(AV.bool (r5.v w))] Try.func5 rfl [.ret (AV.bool r9.v) (r5.h0 w), .b false, .ret (AV.bool (r20.v w)) (r5.h0 w), .b false, .b false, .ret (AV.int IntKind.i64 (r21.v w)) (r5.h0 w), .b false, .b false, .b false, .ret (AV.tup [AV.agg [AV.int IntKind.i64 (v22.v0 w), AV.int IntKind.i64 (v22.v1 w), AV.int IntKind.i64 (v22.v2 w)], AV.int IntKind.i64 (v22.v3 w)]) (r5.h0 w), .ret (AV.tup [AV.agg [AV.int IntKind.i64 (r23.v0 w), AV.int IntKind.i64 (r23.v1 w), AV.int IntKind.i64 (r23.v2 w)], AV.bool (r23.v3 w)]) (r5.h1 w), .b true, .b true, .b true, .b true, .b true, .b true, .b true, .b false, .b false, .b false, .b false, .b false, .b false, .b false, .b false, .b false, .b false, .b false, .b false, .b false, .b false] (by simp) (by simp) (kmp (by kernel_rfl) (Ai (r9 (r5.h0 w)) (Ai (rfl : false = false) (Ai (r20 (w) o0 (r5.h0 w)) (Ai (show (bnot (r20.v w)) = false by rw [h1]; try rfl) (Ai (show (bnot (r20.v w)) = false by rw [h1]; try rfl) (Ai (r21 (w) o1 o2 o3 (r5.h0 w)) (Ai (show (bnot (r20.v w)) = false by rw [h1]; try rfl) (Ai (show (bnot (r20.v w)) = false by rw [h1]; try rfl) (Ai (show (bnot (r21.v w == 0)) = false by rw [h2]; try rfl) (Ai (v22 (w) o1 o2 o3 o4 (r5.h0 w)) (Ai (r23 (w) o1 o5 (r5.h1 w)) (Ai h3 (Ai h3 (Ai h3 (Ai h4 (Ai h4 (Ai h4 (Ai h4 (Ai (show (v22.v0 w == r23.v0 w && (v22.v1 w == r23.v1 w && (v22.v2 w == r23.v2 w && true))) = false by rw [h5, h6, h7]; try rfl) (Ai (show (v22.v0 w == r23.v0 w && (v22.v1 w == r23.v1 w && (v22.v2 w == r23.v2 w && true))) = false by rw [h5, h6, h7]; try rfl) (Ai (show (v22.v0 w == r23.v0 w && (v22.v1 w == r23.v1 w && (v22.v2 w == r23.v2 w && true))) = false by rw [h5, h6, h7]; try rfl) (Ai (show (bnot (r23.v3 w)) = false by rw [h3]; try rfl) (Ai (show (bnot (r23.v3 w)) = false by rw [h3]; try rfl) (Ai (show (v22.v0 w == r23.v0 w && (v22.v1 w == r23.v1 w && (v22.v2 w == r23.v2 w && true))) = false by rw [h5, h6, h7]; try rfl) (Ai (show (bnot (r23.v3 w)) = false by rw [h3]; try rfl) (Ai (show (v22.v0 w == r23.v0 w && (v22.v1 w == r23.v1 w && (v22.v2 w == r23.v2 w && true))) = false by rw [h5, h6, h7]; try rfl) (Ai (rfl : false = false) (Ai (rfl : false = false) (Ai (rfl : false = false) (Ai (show (v22.v0 w == r23.v0 w && (v22.v1 w == r23.v1 w && (v22.v2 w == r23.v2 w && true))) = false by rw [h5, h6, h7]; try rfl) (Ai (rfl : false = false) (Ai (show (v22.v0 w == r23.v0 w && (v22.v1 w == r23.v1 w && (v22.v2 w == r23.v2 w && true))) = false by rw [h5, h6, h7]; try rfl) (Ai (show (AV.bool false) = ((AV.bool (r5.v w))) by simp only [r5.v, h1, h2, h3, h4, h5, h6, h7, cond_true, cond_false]) trivial)))))))))))))))))))))))))))))))))) h
            | false =>
              have h6p := ne_of_beq_false h6
              exact Ret.of_run1 mix [(AV.bool (r5.v w))] Try.func5 rfl [.ret (AV.bool r9.v) (r5.h0 w), .b false, .ret (AV.bool (r20.v w)) (r5.h0 w), .b false, .b false, .ret (AV.int IntKind.i64 (r21.v w)) (r5.h0 w), .b false, .b false, .b false, .ret (AV.tup [AV.agg [AV.int IntKind.i64 (v22.v0 w), AV.int IntKind.i64 (v22.v1 w), AV.int IntKind.i64 (v22.v2 w)], AV.int IntKind.i64 (v22.v3 w)]) (r5.h0 w), .ret (AV.tup [AV.agg [AV.int IntKind.i64 (r23.v0 w), AV.int IntKind.i64 (r23.v1 w), AV.int IntKind.i64 (r23.v2 w)], AV.bool (r23.v3 w)]) (r5.h1 w), .b true, .b true, .b true, .b true, .b true, .b true, .b true, .b false, .b false, .b false, .b false, .b false, .b false, .b false, .b false, .b false, .b false, .b false, .b false, .b false, .b false] (by simp) (by simp) (kmp (by kernel_rfl) (Ai (r9 (r5.h0 w)) (Ai (rfl : false = false) (Ai (r20 (w) o0 (r5.h0 w)) (Ai (show (bnot (r20.v w)) = false by rw [h1]; try rfl) (Ai (show (bnot (r20.v w)) = false by rw [h1]; try rfl) (Ai (r21 (w) o1 o2 o3 (r5.h0 w)) (Ai (show (bnot (r20.v w)) = false by rw [h1]; try rfl) (Ai (show (bnot (r20.v w)) = false by rw [h1]; try rfl) (Ai (show (bnot (r21.v w == 0)) = false by rw [h2]; try rfl) (Ai (v22 (w) o1 o2 o3 o4 (r5.h0 w)) (Ai (r23 (w) o1 o5 (r5.h1 w)) (Ai h3 (Ai h3 (Ai h3 (Ai h4 (Ai h4 (Ai h4 (Ai h4 (Ai (show (v22.v0 w == r23.v0 w && (v22.v1 w == r23.v1 w && (v22.v2 w == r23.v2 w && true))) = false by rw [h5, h6]; try rfl) (Ai (show (v22.v0 w == r23.v0 w && (v22.v1 w == r23.v1 w && (v22.v2 w == r23.v2 w && true))) = false by rw [h5, h6]; try rfl) (Ai (show (v22.v0 w == r23.v0 w && (v22.v1 w == r23.v1 w && (v22.v2 w == r23.v2 w && true))) = false by rw [h5, h6]; try rfl) (Ai (show (bnot (r23.v3 w)) = false by rw [h3]; try rfl) (Ai (show (bnot (r23.v3 w)) = false by rw [h3]; try rfl) (Ai (show (v22.v0 w == r23.v0 w && (v22.v1 w == r23.v1 w && (v22.v2 w == r23.v2 w && true))) = false by rw [h5, h6]; try rfl) (Ai (show (bnot (r23.v3 w)) = false by rw [h3]; try rfl) (Ai (show (v22.v0 w == r23.v0 w && (v22.v1 w == r23.v1 w && (v22.v2 w == r23.v2 w && true))) = false by rw [h5, h6]; try rfl) (Ai (rfl : false = false) (Ai (rfl : false = false) (Ai (rfl : false = false) (Ai (show (v22.v0 w == r23.v0 w && (v22.v1 w == r23.v1 w && (v22.v2 w == r23.v2 w && true))) = false by rw [h5, h6]; try rfl) (Ai (rfl : false = false) (Ai (show (v22.v0 w == r23.v0 w && (v22.v1 w == r23.v1 w && (v22.v2 w == r23.v2 w && true))) = false by rw [h5, h6]; try rfl) (Ai (show (AV.bool false) = ((AV.bool (r5.v w))) by simp only [r5.v, h1, h2, h3, h4, h5, h6, cond_true, cond_false]) trivial)))))))))))))))))))))))))))))))))) h
          | false =>
            have h5p := ne_of_beq_false h5
            exact Ret.of_run1 mix [(AV.bool (r5.v w))] Try.func5 rfl [.ret (AV.bool r9.v) (r5.h0 w), .b false, .ret (AV.bool (r20.v w)) (r5.h0 w), .b false, .b false, .ret (AV.int IntKind.i64 (r21.v w)) (r5.h0 w), .b false, .b false, .b false, .ret (AV.tup [AV.agg [AV.int IntKind.i64 (v22.v0 w), AV.int IntKind.i64 (v22.v1 w), AV.int IntKind.i64 (v22.v2 w)], AV.int IntKind.i64 (v22.v3 w)]) (r5.h0 w), .ret (AV.tup [AV.agg [AV.int IntKind.i64 (r23.v0 w), AV.int IntKind.i64 (r23.v1 w), AV.int IntKind.i64 (r23.v2 w)], AV.bool (r23.v3 w)]) (r5.h1 w), .b true, .b true, .b true, .b true, .b true, .b true, .b true, .b false, .b false, .b false, .b false, .b false, .b false, .b false, .b false, .b false, .b false, .b false, .b false, .b false, .b false] (by simp) (by simp) (kmp (by kernel_rfl) (Ai (r9 (r5.h0 w)) (Ai (rfl : false = false) (Ai (r20 (w) o0 (r5.h0 w)) (Ai (show (bnot (r20.v w)) = false by rw [h1]; try rfl) (Ai (show (bnot (r20.v w)) = false by rw [h1]; try rfl) (Ai (r21 (w) o1 o2 o3 (r5.h0 w)) (Ai (show (bnot (r20.v w)) = false by rw [h1]; try rfl) (Ai (show (bnot (r20.v w)) = false by rw [h1]; try rfl) (Ai (show (bnot (r21.v w == 0)) = false by rw [h2]; try rfl) (Ai (v22 (w) o1 o2 o3 o4 (r5.h0 w)) (Ai (r23 (w) o1 o5 (r5.h1 w)) (Ai h3 (Ai h3 (Ai h3 (Ai h4 (Ai h4 (Ai h4 (Ai h4 (Ai (show (v22.v0 w == r23.v0 w && (v22.v1 w == r23.v1 w && (v22.v2 w == r23.v2 w && true))) = false by rw [h5]; try rfl) (Ai (show (v22.v0 w == r23.v0 w && (v22.v1 w == r23.v1 w && (v22.v2 w == r23.v2 w && true))) = false by rw [h5]; try rfl) (Ai (show (v22.v0 w == r23.v0 w && (v22.v1 w == r23.v1 w && (v22.v2 w == r23.v2 w && true))) = false by rw [h5]; try rfl) (Ai (show (bnot (r23.v3 w)) = false by rw [h3]; try rfl) (Ai (show (bnot (r23.v3 w)) = false by rw [h3]; try rfl) (Ai (show (v22.v0 w == r23.v0 w && (v22.v1 w == r23.v1 w && (v22.v2 w == r23.v2 w && true))) = false by rw [h5]; try rfl) (Ai (show (bnot (r23.v3 w)) = false by rw [h3]; try rfl) (Ai (show (v22.v0 w == r23.v0 w && (v22.v1 w == r23.v1 w && (v22.v2 w == r23.v2 w && true))) = false by rw [h5]; try rfl) (Ai (rfl : false = false) (Ai (rfl : false = false) (Ai (rfl : false = false) (Ai (show (v22.v0 w == r23.v0 w && (v22.v1 w == r23.v1 w && (v22.v2 w == r23.v2 w && true))) = false by rw [h5]; try rfl) (Ai (rfl : false = false) (Ai (show (v22.v0 w == r23.v0 w && (v22.v1 w == r23.v1 w && (v22.v2 w == r23.v2 w && true))) = false by rw [h5]; try rfl) (Ai (show (AV.bool false) = ((AV.bool (r5.v w))) by simp only [r5.v, h1, h2, h3, h4, h5, cond_true, cond_false]) trivial)))))))))))))))))))))))))))))))))) h
        | false =>
          have h4p := ne_of_beq_false h4
          exact Ret.of_run1 mix [(AV.bool (r5.v w))] Try.func5 rfl [.ret (AV.bool r9.v) (r5.h0 w), .b false, .ret (AV.bool (r20.v w)) (r5.h0 w), .b false, .b false, .ret (AV.int IntKind.i64 (r21.v w)) (r5.h0 w), .b false, .b false, .b false, .ret (AV.tup [AV.agg [AV.int IntKind.i64 (v22.v0 w), AV.int IntKind.i64 (v22.v1 w), AV.int IntKind.i64 (v22.v2 w)], AV.int IntKind.i64 (v22.v3 w)]) (r5.h0 w), .ret (AV.tup [AV.agg [AV.int IntKind.i64 (r23.v0 w), AV.int IntKind.i64 (r23.v1 w), AV.int IntKind.i64 (r23.v2 w)], AV.bool (r23.v3 w)]) (r5.h1 w), .b true, .b true, .b true, .b false, .b false, .b false, .b false, .b false, .b false, .b false, .b false, .b false, .b false, .b false, .b false, .b false, .b false, .b false, .b false, .b false, .b false] (by simp) (by simp) (kmp (by kernel_rfl) (Ai (r9 (r5.h0 w)) (Ai (rfl : false = false) (Ai (r20 (w) o0 (r5.h0 w)) (Ai (show (bnot (r20.v w)) = false by rw [h1]; try rfl) (Ai (show (bnot (r20.v w)) = false by rw [h1]; try rfl) (Ai (r21 (w) o1 o2 o3 (r5.h0 w)) (Ai (show (bnot (r20.v w)) = false by rw [h1]; try rfl) (Ai (show (bnot (r20.v w)) = false by rw [h1]; try rfl) (Ai (show (bnot (r21.v w == 0)) = false by rw [h2]; try rfl) (Ai (v22 (w) o1 o2 o3 o4 (r5.h0 w)) (Ai (r23 (w) o1 o5 (r5.h1 w)) (Ai h3 (Ai h3 (Ai h3 (Ai h4 (Ai h4 (Ai h4 (Ai h4 (Ai (rfl : false = false) (Ai (rfl : false = false) (Ai (rfl : false = false) (Ai (show (bnot (r23.v3 w)) = false by rw [h3]; try rfl) (Ai (show (bnot (r23.v3 w)) = false by rw [h3]; try rfl) (Ai (rfl : false = false) (Ai (show (bnot (r23.v3 w)) = false by rw [h3]; try rfl) (Ai (rfl : false = false) (Ai (rfl : false = false) (Ai (rfl : false = false) (Ai (rfl : false = false) (Ai (rfl : false = false) (Ai (rfl : false = false) (Ai (rfl : false = false) (Ai (show (AV.bool false) = ((AV.bool (r5.v w))) by simp only [r5.v, h1, h2, h3, h4, cond_true, cond_false]) trivial)))))))))))))))))))))))))))))))))) h
      | false =>
        cases h4 : v22.v3 w == 9 with
        | true =>
          have h4p := eq_of_beq h4
          exact Ret.of_run1 mix [(AV.bool (r5.v w))] Try.func5 rfl [.ret (AV.bool r9.v) (r5.h0 w), .b false, .ret (AV.bool (r20.v w)) (r5.h0 w), .b false, .b false, .ret (AV.int IntKind.i64 (r21.v w)) (r5.h0 w), .b false, .b false, .b false, .ret (AV.tup [AV.agg [AV.int IntKind.i64 (v22.v0 w), AV.int IntKind.i64 (v22.v1 w), AV.int IntKind.i64 (v22.v2 w)], AV.int IntKind.i64 (v22.v3 w)]) (r5.h0 w), .ret (AV.tup [AV.agg [AV.int IntKind.i64 (r23.v0 w), AV.int IntKind.i64 (r23.v1 w), AV.int IntKind.i64 (r23.v2 w)], AV.bool (r23.v3 w)]) (r5.h1 w), .b false, .b false, .b false, .b false, .b false, .b false, .b false, .b false, .b false, .b false, .b true, .b true, .b false, .b true, .b false, .b true, .b true, .b true, .b false, .b true, .b false] (by simp) (by simp) (kmp (by kernel_rfl) (Ai (r9 (r5.h0 w)) (Ai (rfl : false = false) (Ai (r20 (w) o0 (r5.h0 w)) (Ai (show (bnot (r20.v w)) = false by rw [h1]; try rfl) (Ai (show (bnot (r20.v w)) = false by rw [h1]; try rfl) (Ai (r21 (w) o1 o2 o3 (r5.h0 w)) (Ai (show (bnot (r20.v w)) = false by rw [h1]; try rfl) (Ai (show (bnot (r20.v w)) = false by rw [h1]; try rfl) (Ai (show (bnot (r21.v w == 0)) = false by rw [h2]; try rfl) (Ai (v22 (w) o1 o2 o3 o4 (r5.h0 w)) (Ai (r23 (w) o1 o5 (r5.h1 w)) (Ai h3 (Ai h3 (Ai h3 (Ai (rfl : false = false) (Ai (rfl : false = false) (Ai (rfl : false = false) (Ai (rfl : false = false) (Ai (rfl : false = false) (Ai (rfl : false = false) (Ai (rfl : false = false) (Ai (show (bnot (r23.v3 w)) = true by rw [h3]; try rfl) (Ai (show (bnot (r23.v3 w)) = true by rw [h3]; try rfl) (Ai (rfl : false = false) (Ai (show (bnot (r23.v3 w)) = true by rw [h3]; try rfl) (Ai (rfl : false = false) (Ai h4 (Ai h4 (Ai h4 (Ai (rfl : false = false) (Ai h4 (Ai (rfl : false = false) (Ai (show (AV.bool (v22.v0 w == 0 && (fun (q : Bool) => v22.v1 w == 0 && q) ((fun (q : Bool) => v22.v2 w == 0 && q) true))) = ((AV.bool (r5.v w))) by simp only [r5.v, h1, h2, h3, h4, cond_true, cond_false]) trivial)))))))))))))))))))))))))))))))))) h
        | false =>
          have h4p := ne_of_beq_false h4
          exact Ret.of_run1 mix [(AV.bool (r5.v w))] Try.func5 rfl [.ret (AV.bool r9.v) (r5.h0 w), .b false, .ret (AV.bool (r20.v w)) (r5.h0 w), .b false, .b false, .ret (AV.int IntKind.i64 (r21.v w)) (r5.h0 w), .b false, .b false, .b false, .ret (AV.tup [AV.agg [AV.int IntKind.i64 (v22.v0 w), AV.int IntKind.i64 (v22.v1 w), AV.int IntKind.i64 (v22.v2 w)], AV.int IntKind.i64 (v22.v3 w)]) (r5.h0 w), .ret (AV.tup [AV.agg [AV.int IntKind.i64 (r23.v0 w), AV.int IntKind.i64 (r23.v1 w), AV.int IntKind.i64 (r23.v2 w)], AV.bool (r23.v3 w)]) (r5.h1 w), .b false, .b false, .b false, .b false, .b false, .b false, .b false, .b false, .b false, .b false, .b true, .b true, .b false, .b true, .b false, .b false, .b false, .b false, .b false, .b false, .b false] (by simp) (by simp) (kmp (by kernel_rfl) (Ai (r9 (r5.h0 w)) (Ai (rfl : false = false) (Ai (r20 (w) o0 (r5.h0 w)) (Ai (show (bnot (r20.v w)) = false by rw [h1]; try rfl) (Ai (show (bnot (r20.v w)) = false by rw [h1]; try rfl) (Ai (r21 (w) o1 o2 o3 (r5.h0 w)) (Ai (show (bnot (r20.v w)) = false by rw [h1]; try rfl) (Ai (show (bnot (r20.v w)) = false by rw [h1]; try rfl) (Ai (show (bnot (r21.v w == 0)) = false by rw [h2]; try rfl) (Ai (v22 (w) o1 o2 o3 o4 (r5.h0 w)) (Ai (r23 (w) o1 o5 (r5.h1 w)) (Ai h3 (Ai h3 (Ai h3 (Ai (rfl : false = false) (Ai (rfl : false = false) (Ai (rfl : false = false) (Ai (rfl : false = false) (Ai (rfl : false = false) (Ai (rfl : false = false) (Ai (rfl : false = false) (Ai (show (bnot (r23.v3 w)) = true by rw [h3]; try rfl) (Ai (show (bnot (r23.v3 w)) = true by rw [h3]; try rfl) (Ai (rfl : false = false) (Ai (show (bnot (r23.v3 w)) = true by rw [h3]; try rfl) (Ai (rfl : false = false) (Ai h4 (Ai h4 (Ai h4 (Ai (rfl : false = false) (Ai h4 (Ai (rfl : false = false) (Ai (show (AV.bool false) = ((AV.bool (r5.v w))) by simp only [r5.v, h1, h2, h3, h4, cond_true, cond_false]) trivial)))))))))))))))))))))))))))))))))) h
    | false =>
      have h2p := ne_of_beq_false h2
      exact Ret.of_run1 mix [(AV.bool (r5.v w))] Try.func5 rfl [.ret (AV.bool r9.v) (r5.h0 w), .b false, .ret (AV.bool (r20.v w)) (r5.h0 w), .b false, .b false, .ret (AV.int IntKind.i64 (r21.v w)) (r5.h0 w), .b false, .b false, .b true] (by simp) (by simp) (kmp (by kernel_rfl) (Ai (r9 (r5.h0 w)) (Ai (rfl : false = false) (Ai (r20 (w) o0 (r5.h0 w)) (Ai (show (bnot (r20.v w)) = false by rw [h1]; try rfl) (Ai (show (bnot (r20.v w)) = false by rw [h1]; try rfl) (Ai (r21 (w) o1 o2 o3 (r5.h0 w)) (Ai (show (bnot (r20.v w)) = false by rw [h1]; try rfl) (Ai (show (bnot (r20.v w)) = false by rw [h1]; try rfl) (Ai (show (bnot (r21.v w == 0)) = true by rw [h2]; try rfl) (Ai (show (AV.bool true) = ((AV.bool (r5.v w))) by simp only [r5.v, h1, h2, cond_true, cond_false]) trivial))))))))))) h
  | false =>
    exact Ret.of_run1 mix [(AV.bool (r5.v w))] Try.func5 rfl [.ret (AV.bool r9.v) (r5.h0 w), .b false, .ret (AV.bool (r20.v w)) (r5.h0 w), .b true, .b true, .b true, .b true, .b true] (by simp) (by simp) (kmp (by kernel_rfl) (Ai (r9 (r5.h0 w)) (Ai (rfl : false = false) (Ai (r20 (w) o0 (r5.h0 w)) (Ai (show (bnot (r20.v w)) = true by rw [h1]; try rfl) (Ai (show (bnot (r20.v w)) = true by rw [h1]; try rfl) (Ai (show (bnot (r20.v w)) = true by rw [h1]; try rfl) (Ai (show (bnot (r20.v w)) = true by rw [h1]; try rfl) (Ai (rfl : true = true) (Ai (show (AV.bool true) = ((AV.bool (r5.v w))) by simp only [r5.v, h1, cond_true, cond_false]) trivial)))))))))) h
end Go.Proofs.Ytjdbmmilcihpoaa
open Go
namespace Go.Proofs.Ytjdbmmilcihpoaa
set_option maxHeartbeats 0
set_option maxRecDepth 100000
set_option linter.unusedVariables false
set_option linter.unusedSimpArgs false
noncomputable abbrev jC (w : WD) (k : Nat) : List Int := r45.v (cC w k).length fun i => (cC w k).getD i default
theorem r46_47 (a b l : Int) : r46.v a b l = r47.v a b l := rfl
def oC : L23c.O → Lv22abc.O
  | .e0 a => .e0 a
  | .e1 => .e1
def oB (x y z : Int) : L23b.O → Lv22ab.O
  | .e0 a b => .e0 a b
  | .e1 => .e1 x y z
def oA (x y z : Int) : L23a.O → Lv22a.O
  | .e0 a b c => .e0 a b c
  | .e1 => .e1 x y z
section
variable (w : WD) (a : Int)
theorem c22_N (b : Int) : ∀ (q : Nat) (c : Int), Lv22abc.N w a b q c = oC (L23c.N w (jC w a.toNat) (jC w (IntKind.i64.wrap (a - 1)).toNat) b q c) := by
  intro q
  induction q with
  | zero => intro c; rfl
  | succ q ih =>
    intro c
    simp only [Lv22abc.N, L23c.N, ih, r46_47]
    cases decide (c < ((jC w (IntKind.i64.wrap (a - 1)).toNat).length : Int)) with
    | false => rfl
    | true =>
      simp only [cond_true]
      cases r47.v ((jC w a.toNat).getD b.toNat 0) ((jC w (IntKind.i64.wrap (a - 1)).toNat).getD c.toNat 0) w.lap <;> rfl
theorem b22_N (x y z : Int) : ∀ (q : Nat) (b : Int), Lv22ab.N w a q b x y z = oB x y z (L23b.N w (jC w a.toNat) (jC w (IntKind.i64.wrap (a - 1)).toNat) q b) := by
  intro q
  induction q with
  | zero => intro b; rfl
  | succ q ih =>
    intro b
    have e : Lv22abc.run w a b 0 = oC (L23c.run w (jC w a.toNat) (jC w (IntKind.i64.wrap (a - 1)).toNat) b 0) := c22_N w a b _ 0
    simp only [Lv22ab.N, L23b.N, ih, e]
    cases decide (b < ((jC w a.toNat).length : Int)) with
    | false => rfl
    | true =>
      simp only [cond_true]
      cases L23c.run w (jC w a.toNat) (jC w (IntKind.i64.wrap (a - 1)).toNat) b 0 <;> rfl
end
section
variable {w : WD} (hn : w.n ≤ 10000) (he : (r24.v w == 0) = true)
include hn he
theorem a22_N (x y z : Int) : ∀ (d a q q' : Nat), nC w - a = d → 1 ≤ a → d < q → d < q' → Lv22a.N w q (a : Int) x y z = oA x y z (L23a.N w q' (a : Int)) := by
  have hN := v_N hn he
  have ht : r41.v w + 1 = (nC w : Int) := by
    rw [r41_v w hn]
    have := v_top hn he
    unfold nC; omega
  intro d
  induction d with
  | zero =>
    intro a q q' h1 ha h2 h3
    obtain ⟨q, rfl⟩ : ∃ p, q = p + 1 := ⟨q - 1, by omega⟩
    obtain ⟨q', rfl⟩ : ∃ p, q' = p + 1 := ⟨q' - 1, by omega⟩
    simp only [Lv22a.N, L23a.N]
    rw [decide_eq_false (show ¬ (a : Int) < (nC w : Int) by omega), decide_eq_false (show ¬ (a : Int) ≤ r41.v w by omega)]
    rfl
  | succ d ih =>
    intro a q q' h1 ha h2 h3
    obtain ⟨q, rfl⟩ : ∃ p, q = p + 1 := ⟨q - 1, by omega⟩
    obtain ⟨q', rfl⟩ : ∃ p, q' = p + 1 := ⟨q' - 1, by omega⟩
    simp only [Lv22a.N, L23a.N]
    rw [decide_eq_true (show (a : Int) < (nC w : Int) by omega), decide_eq_true (show (a : Int) ≤ r41.v w by omega), cond_true, cond_true, wrap_s (n := a) (Nat.le_refl _) (by omega)]
    have e : Lv22ab.run w (a : Int) 0 x y z = oB x y z (L23b.run w (r30.v w (a : Int)) (r30.v w (IntKind.i64.wrap ((a : Int) - 1))) 0) := by
      rw [wrap_p ha (by omega), r30_45 hn he, r30_45 hn he]
      have := b22_N w (a : Int) x y z (((jC w a).length : Int) - 0).toNat.succ 0
      rw [Int.toNat_natCast, wrap_pn ha (by omega)] at this
      exact this
    rw [e]
    cases L23b.run w (r30.v w (a : Int)) (r30.v w (IntKind.i64.wrap ((a : Int) - 1))) 0 with
    | e0 p r => rfl
    | e1 => exact ih (a + 1) q q' (by omega) (by omega) (by omega) (by omega)
theorem a22 : Lv22a.run w 1 0 0 0 = oA 0 0 0 (L23a.run w 1) := by
  have hN := v_N hn he
  have hN2 : nC w ≤ 100 := by have := v_top hn he; unfold nC; omega
  unfold Lv22a.run L23a.run
  exact a22_N hn he 0 0 0 _ 1 _ _ rfl (Nat.le_refl _) (by omega) (by show _ < 100; omega)
end
theorem r5_true {w : WD} (hnm : w.nm.size ≤ 9223372036854775807) (hg : ∀ i, (w.g i).nm.size ≤ 9223372036854775807) : r5.v w = true := by
  unfold r5.v
  cases h : r20.v w with
  | false => rfl
  | true =>
    cases hc : r21.v w == 0 with
    | false => rfl
    | true =>
      have e := a22 (small_n h) (chk0 h hnm hg hc)
      unfold v22.v0 v22.v1 v22.v2 v22.v3 r23.v0 r23.v1 r23.v2 r23.v3
      rw [e]
      cases L23a.run w 1 with
      | e0 a b c => simp [oA]
      | e1 => simp [oA]
end Go.Proofs.Ytjdbmmilcihpoaa
open Go
namespace Go.Proofs.Ytjdbmmilcihpoaa
open Go.ChangeShapes Go.WideShapes Go.ChangeAt Go.RowKit
set_option maxRecDepth 100000 in
theorem law5 (xs : List AV) (h : FitsA Try.prog 8 [36] xs) : Ret Try.prog 5 xs [] (.bool true) [] := by
  obtain ⟨x0, rfl, h0⟩ := fitsA1 h
  obtain ⟨w, hw, hnm, hg, i0⟩ := arg_wall h0
  have := r5 w hw hnm hg []
  rw [r5_true hnm hg] at this
  exact this.imp (.cons i0 .nil)
set_option maxRecDepth 100000 in
theorem wallBroken_lifted (os : Os) (started : os.Started) (H : Type) (enc : TypeId × Value → H) :
    ReturnsInHanded {} Try.checked os 5 .any (Rows.wallBrokenSpec.pre6 enc Try.prog Try.f5 Rows.wallBrokenRow.domain false) (Rows.wallBrokenSpec.post enc Try.prog Try.f5 false true false false) :=
  lifted (C := Try.checked) 8 own started (by kernel_rfl) Try.func5
    (ChangeSpec.witness6 (enc := enc) (C := Try.checked) false ⟨#[], #[.agg #[.string ByteArray.empty, .slice none 0 0, .int .i64 0, .int .i64 0, .int .i64 0, .int .i64 0]], []⟩ 8 (by kernel_rfl) (by kernel_rfl) (by kernel_rfl) (by kernel_rfl))
    rfl (fun ds hd => by
      match ds, hd with
      | [_], _ => rfl) (rt := 4) (by kernel_rfl) (by kernel_rfl) laidOut (by kernel_rfl) law5
theorem wallBroken_holds : Rows.WallBrokenSaid :=
  OpenClaim.holds_of_wide 5 Try.f5 rfl rfl rfl rfl rfl rfl rfl ⟨rfl, rfl, rfl, rfl, rfl⟩ rfl rfl rfl rfl rfl (by kernel_rfl) Try.func5 (by kernel_rfl)
    (of_decide_eq_true (by kernel_rfl)) (by unfold Func.isWrapper; first | (rw [if_pos (by decide +kernel)]; kernel_rfl) | (rw [if_neg (by decide +kernel)]; exact ⟨rfl, rfl⟩))
    (fun os started H enc _ => wallBroken_lifted os started H enc)
end Go.Proofs.Ytjdbmmilcihpoaa
