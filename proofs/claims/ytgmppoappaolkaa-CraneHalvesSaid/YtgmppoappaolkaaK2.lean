/- CraneHalves: whatever the input, the law hands back true. Conditions: none. -/
import Derived.Test.YtgmppoappaolkaaK1
import Derived.Test.YtgmppoappaolkaaRows

/- names, stands. Conditions: none. -/
open Go
namespace Go.Proofs.Ytgmppoappaolkaa
set_option linter.unusedSimpArgs false
set_option linter.unusedVariables false
set_option maxHeartbeats 0
set_option maxRecDepth 100000
noncomputable def r75.v (c : Int) : Bool := (bif r76.v c then (bif decide (c < 65) then true else decide (c > 90)) else false)
theorem r75 (c : Int) (h0 : 0 ≤ c) (h1 : c ≤ 255) (h : AHeap) : Ret Try.prog 75 ([AV.int IntKind.u8 c]) h (AV.bool (r75.v c)) h := by
  have o0 : (0 : Int) ≤ c := by first | assumption | omega | (simp_all; done)
  have o1 : c ≤ (255 : Int) := by first | assumption | omega | (simp_all; done)
  cases h1 : r76.v c with
  | true =>
    cases h2 : decide (c < 65) with
    | true =>
      have h2p := of_decide_eq_true h2
      exact Ret.of_run1 mix [(AV.bool (r75.v c))] Try.func75 rfl [.ret (AV.bool (r76.v c)) ([]), .b true, .b true, .b true, .b true, .b true, .b true, .b true, .b true] (by simp) (by simp) (kmp (by kernel_rfl) (And.intro (r76 (c) o0 o1 ([])) (And.intro h1 (And.intro h1 (And.intro h1 (And.intro h2 (And.intro h2 (And.intro h1 (And.intro h2 (And.intro h1 (And.intro (show (AV.bool true) = ((AV.bool (r75.v c))) by first | (simp only [r75.v, h1, h2, cond_true, cond_false]; done) | (try unfold r75.v; try simp only [h1, cond_true, cond_false]; try simp only [h2, cond_true, cond_false]; try rfl; done) | rfl) trivial))))))))))) h
    | false =>
      have h2p := of_decide_eq_false h2
      exact Ret.of_run1 mix [(AV.bool (r75.v c))] Try.func75 rfl [.ret (AV.bool (r76.v c)) ([]), .b true, .b true, .b true, .b false, .b false, .b true, .b false, .b true] (by simp) (by simp) (kmp (by kernel_rfl) (And.intro (r76 (c) o0 o1 ([])) (And.intro h1 (And.intro h1 (And.intro h1 (And.intro h2 (And.intro h2 (And.intro h1 (And.intro h2 (And.intro h1 (And.intro (show (AV.bool (decide (c > 90))) = ((AV.bool (r75.v c))) by first | (simp only [r75.v, h1, h2, cond_true, cond_false]; done) | (try unfold r75.v; try simp only [h1, cond_true, cond_false]; try simp only [h2, cond_true, cond_false]; try rfl; done) | rfl) trivial))))))))))) h
  | false =>
    exact Ret.of_run1 mix [(AV.bool (r75.v c))] Try.func75 rfl [.ret (AV.bool (r76.v c)) ([]), .b false, .b false, .b false, .b false, .b false] (by simp) (by simp) (kmp (by kernel_rfl) (And.intro (r76 (c) o0 o1 ([])) (And.intro h1 (And.intro h1 (And.intro h1 (And.intro h1 (And.intro h1 (And.intro (show (AV.bool false) = ((AV.bool (r75.v c))) by first | (simp only [r75.v, h1, cond_true, cond_false]; done) | (try unfold r75.v; try simp only [h1, cond_true, cond_false]; try rfl; done) | rfl) trivial)))))))) h

inductive L74.O where
  | e0 (a0 : Int)
noncomputable def L74.T (s : ByteArray) (i : Int) : List AV := mkT 20 [(0, AV.str s), (1, AV.fn 75 []), (5, AV.int IntKind.i64 i)]
noncomputable def L74.H (s : ByteArray) (i : Int) : AHeap := []
def L74.inv (s : ByteArray) (i : Int) : Prop := 0 ≤ i ∧ i ≤ (↑s.size : Int)
noncomputable def L74.mu (s : ByteArray) (i : Int) : Nat := ((↑s.size : Int) - i).toNat
noncomputable def L74.E : L74.O → Exit
  | .e0 a0 => Exit.exit 0
noncomputable def L74.X (s : ByteArray) : L74.O → List AV
  | .e0 a0 => mkT 20 [(5, (AV.int IntKind.i64 a0))]
noncomputable def L74.XH (s : ByteArray) : L74.O → AHeap
  | .e0 a0 => ([])
noncomputable def L74.N (s : ByteArray) : Nat → Int → L74.O
  | 0, i => .e0 i
  | k_ + 1, i => (bif decide (i < (↑s.size : Int)) then (bif r75.v (sbyte s i.toNat) then (L74.N s k_ (IntKind.i64.wrap (i + 1))) else (.e0 (i))) else (.e0 (i)))
noncomputable def L74.run (s : ByteArray) (i : Int) : L74.O := L74.N s ((((↑s.size : Int) - i).toNat) + 1) i
def L74.Next (s : ByteArray) (k_ : Nat) (z_ : Int) (T_ : List AV) (h_ : AHeap) : Prop := LNextP (fun (z_ : Int) => L74.T s z_) (fun (z_ : Int) => L74.H s z_) (fun (z_ : Int) => L74.inv s z_) (fun (z_ : Int) => L74.mu s z_) (fun (k_ : Nat) (z_ : Int) => L74.N s k_ z_) k_ z_ T_ h_
def L74.End (s : ByteArray) (k_ : Nat) (z_ : Int) (e_ : Exit) (T_ : List AV) (h_ : AHeap) : Prop := LEndP (fun (z_ : Int) => L74.H s z_) (fun (k_ : Nat) (z_ : Int) => L74.N s k_ z_) L74.E (L74.X s) (L74.XH s) k_ z_ e_ T_ h_
theorem L74.nx (s : ByteArray) {k_ : Nat} {z_ : Int} {h_ : AHeap} (s_ : Int) (h1 : L74.inv s s_) (h2 : L74.mu s s_ < L74.mu s z_) (h3 : L74.N s k_ s_ = L74.N s (k_ + 1) z_) (h4 : PopOk (L74.H s z_) h_ (L74.T s s_) (L74.H s s_)) : LNextP (fun (z_ : Int) => L74.T s z_) (fun (z_ : Int) => L74.H s z_) (fun (z_ : Int) => L74.inv s z_) (fun (z_ : Int) => L74.mu s z_) (fun (k_ : Nat) (z_ : Int) => L74.N s k_ z_) k_ z_ (L74.T s s_) h_ := LNextP.mk (Tm := (fun (z_ : Int) => L74.T s z_)) (Hp := (fun (z_ : Int) => L74.H s z_)) (inv := (fun (z_ : Int) => L74.inv s z_)) (mu := (fun (z_ : Int) => L74.mu s z_)) (l := (fun (k_ : Nat) (z_ : Int) => L74.N s k_ z_)) s_ h1 h2 h3 h4
theorem L74.en (s : ByteArray) {k_ : Nat} {z_ : Int} {h_ : AHeap} (o_ : L74.O) (h3 : L74.N s (k_ + 1) z_ = o_) (h4 : PopOk (L74.H s z_) h_ (L74.X s o_) (L74.XH s o_)) : LEndP (fun (z_ : Int) => L74.H s z_) (fun (k_ : Nat) (z_ : Int) => L74.N s k_ z_) L74.E (L74.X s) (L74.XH s) k_ z_ (L74.E o_) (L74.X s o_) h_ := LEndP.mk (Hp := (fun (z_ : Int) => L74.H s z_)) (l := (fun (k_ : Nat) (z_ : Int) => L74.N s k_ z_)) (oE := L74.E) (oT := L74.X s) (oH := L74.XH s) o_ h3 h4
theorem L74.spec (s : ByteArray) (hs : s.size ≤ 9223372036854775807) (k_ : Nat) (z_ : Int) (hi_ : L74.inv s z_) (hm_ : L74.mu s z_ < k_) : LoopTo Try.prog (loopN Try.f74 0) (L74.T s z_) (L74.H s z_) (L74.E (L74.N s k_ z_)) (L74.X s (L74.N s k_ z_)) (L74.XH s (L74.N s k_ z_)) := by
  refine LoopTo.fuelP mix (fun (z_ : Int) => L74.T s z_) (fun (z_ : Int) => L74.H s z_) (fun (z_ : Int) => L74.inv s z_) (fun (z_ : Int) => L74.mu s z_) (fun (k_ : Nat) (z_ : Int) => L74.N s k_ z_) L74.E (L74.X s) (L74.XH s) (others 20 [0, 1, 5]) (others 20 [4]) (others 20 [5]) ?_ k_ z_ hi_ hm_
  clear hm_ hi_ z_ k_
  intro k_ z_ hinv hmu
  revert hinv hmu; revert z_; intro i hinv hmu
  have hinv : 0 ≤ i ∧ i ≤ (↑s.size : Int) := hinv
  have hmu : (((↑s.size : Int) - i).toNat) < k_ + 1 := hmu
  cases h1 : decide (i < (↑s.size : Int)) with
  | true =>
    have h1p := of_decide_eq_true h1
    have o0 : (0 : Int) ≤ i := by first | assumption | omega | (simp_all; done)
    have o1 : i < (↑s.size : Int) := by first | assumption | omega | (simp_all; done)
    try have := sbyte_bd (s) (i.toNat)
    have o2 : (0 : Int) ≤ sbyte s i.toNat := by first | assumption | omega | (simp_all; done)
    have o3 : sbyte s i.toNat ≤ (255 : Int) := by first | assumption | omega | (simp_all; done)
    cases h2 : r75.v (sbyte s i.toNat) with
    | true =>
      try have := IntWalk.i64_in (i + 1) (by omega)
      have o4 : (0 : Int) ≤ IntKind.i64.wrap (i + (1 : Int)) := by first | assumption | omega | (simp_all; done)
      have o5 : IntKind.i64.wrap (i + (1 : Int)) ≤ (↑s.size : Int) := by first | assumption | omega | (simp_all; done)
      have o6 : ((↑s.size : Int) - IntKind.i64.wrap (i + (1 : Int))).toNat < ((↑s.size : Int) - i).toNat := by first | assumption | omega | (simp_all; done)
      exact ⟨[.b true, .b true, .b true, .b true, .b true, .ret (AV.bool (r75.v (sbyte s i.toNat))) ([]), .b true, .b true], kmp (by kernel_rfl) (And.intro h1 (And.intro h1 (And.intro h1 (And.intro h1 (And.intro (And.intro o0 o1) (And.intro h1 (And.intro (r75 (sbyte s i.toNat) o2 o3 ([])) (And.intro h1 (And.intro h2 (L74.nx s (k_ := k_) (z_ := i) (IntKind.i64.wrap (i + 1)) (And.intro o4 o5) o6 (by first | (simp only [L74.N, h1, h2, cond_true, cond_false]; done) | (try unfold L74.N; try simp only [h1, cond_true, cond_false]; try simp only [h2, cond_true, cond_false]; try rfl; done)) PopOk.same))))))))))⟩
    | false =>
      exact ⟨[.b true, .b true, .b true, .b true, .b true, .ret (AV.bool (r75.v (sbyte s i.toNat))) ([]), .b true, .b false], kmp (by kernel_rfl) (And.intro h1 (And.intro h1 (And.intro h1 (And.intro h1 (And.intro (And.intro o0 o1) (And.intro h1 (And.intro (r75 (sbyte s i.toNat) o2 o3 ([])) (And.intro h1 (And.intro h2 (L74.en s (k_ := k_) (z_ := i) (.e0 (i) : L74.O) (by first | (simp only [L74.N, h1, h2, cond_true, cond_false]; done) | (try unfold L74.N; try simp only [h1, cond_true, cond_false]; try simp only [h2, cond_true, cond_false]; try rfl; done)) PopOk.same))))))))))⟩
  | false =>
    have h1p := of_decide_eq_false h1
    exact ⟨[.b false, .b false, .b false, .b false, .b false, .b false, .b false], kmp (by kernel_rfl) (And.intro h1 (And.intro h1 (And.intro h1 (And.intro h1 (And.intro h1 (And.intro h1 (And.intro (rfl : false = false) (L74.en s (k_ := k_) (z_ := i) (.e0 (i) : L74.O) (by first | (simp only [L74.N, h1, cond_true, cond_false]; done) | (try unfold L74.N; try simp only [h1, cond_true, cond_false]; try rfl; done)) PopOk.same))))))))⟩
theorem L74.e0 (s : ByteArray) (hs : s.size ≤ 9223372036854775807) (i : Int) (hinv : L74.inv s i) (a0 : Int) (hN : L74.run s i = (.e0 a0 : L74.O)) : LoopTo Try.prog (loopN Try.f74 0) (L74.T s i) (L74.H s i) (Exit.exit 0) (L74.X s (.e0 a0 : L74.O)) (L74.XH s (.e0 a0 : L74.O)) := by
  have h_ := L74.spec s hs ((((↑s.size : Int) - i).toNat) + 1) i hinv (Nat.lt_succ_self _)
  unfold L74.run at hN
  simp only [hN] at h_
  exact h_

noncomputable def r74.v (s : ByteArray) : Int := (match L74.run s 0 with | .e0 h1d0 => h1d0 )
theorem r74 (s : ByteArray) (hs : s.size ≤ 9223372036854775807) (h : AHeap) : Ret Try.prog 74 ([AV.str s, AV.fn 75 []]) h (AV.int IntKind.i64 (r74.v s)) h := by
  have o0 : s.size ≤ (9223372036854775807 : Nat) := by first | assumption | omega | (simp_all; done)
  have o1 : (0 : Int) ≤ (↑s.size : Int) := by first | assumption | omega | (simp_all; done)
  cases h1 : L74.run s 0 with
  | e0 h1d0 =>
    exact Ret.of_run1 mix [(AV.int IntKind.i64 (r74.v s))] Try.func74 rfl [.loop (others 20 [0, 1, 5]) (Exit.exit 0) (L74.X s (L74.O.e0 h1d0)) (L74.XH s (L74.O.e0 h1d0))] (by simp) (by simp) (kmp (by kernel_rfl) (And.intro (L74.e0 (s) o0 (0) (And.intro (show (0 : Int) ≤ (0 : Int) by first | decide | exact Int.NonNeg.mk _) o1) h1d0 h1) (And.intro (show (AV.int IntKind.i64 h1d0) = ((AV.int IntKind.i64 (r74.v s))) by first | (simp only [r74.v, h1, cond_true, cond_false]; done) | (try unfold r74.v; try simp only [h1, cond_true, cond_false]; try rfl; done) | rfl) trivial))) h

noncomputable def r63.v (s : ByteArray) : Bool := (bif s.toList == (ByteArray.mk #[]).toList then false else (bif decide ((↑s.size : Int) > 24) then false else (bif decide (sbyte s 0 < 97) then false else (bif decide (sbyte s 0 > 122) then false else r74.v s == (↑s.size : Int)))))
theorem r63 (s : ByteArray) (hs : s.size ≤ 9223372036854775807) (h : AHeap) : Ret Try.prog 63 ([AV.str s]) h (AV.bool (r63.v s)) h := by
  cases h1 : s.toList == (ByteArray.mk #[]).toList with
  | true =>
    have h1p := str_eq h1
    exact Ret.of_run1 mix [(AV.bool (r63.v s))] Try.func63 rfl [.b true, .b true, .b true, .b true, .b true, .b true, .b true, .b true, .b true, .b true, .b true, .b true, .b true] (by simp) (by simp) (kmp (by kernel_rfl) (And.intro h1 (And.intro h1 (And.intro h1 (And.intro h1 (And.intro (rfl : true = true) (And.intro (rfl : true = true) (And.intro (rfl : true = true) (And.intro (rfl : true = true) (And.intro (rfl : true = true) (And.intro (rfl : true = true) (And.intro (rfl : true = true) (And.intro (rfl : true = true) (And.intro (rfl : true = true) (And.intro (show (AV.bool false) = ((AV.bool (r63.v s))) by first | (simp only [r63.v, h1, cond_true, cond_false]; done) | (try unfold r63.v; try simp only [h1, cond_true, cond_false]; try rfl; done) | rfl) trivial))))))))))))))) h
  | false =>
    have h1p := str_ne h1
    have h1q := str_pos h1
    cases h2 : decide ((↑s.size : Int) > 24) with
    | true =>
      have h2p := of_decide_eq_true h2
      exact Ret.of_run1 mix [(AV.bool (r63.v s))] Try.func63 rfl [.b false, .b false, .b false, .b false, .b true, .b true, .b true, .b true, .b true, .b true, .b true, .b true, .b true] (by simp) (by simp) (kmp (by kernel_rfl) (And.intro h1 (And.intro h1 (And.intro h1 (And.intro h1 (And.intro h2 (And.intro h2 (And.intro h2 (And.intro h2 (And.intro (rfl : true = true) (And.intro (rfl : true = true) (And.intro (rfl : true = true) (And.intro (rfl : true = true) (And.intro (rfl : true = true) (And.intro (show (AV.bool false) = ((AV.bool (r63.v s))) by first | (simp only [r63.v, h1, h2, cond_true, cond_false]; done) | (try unfold r63.v; try simp only [h1, cond_true, cond_false]; try simp only [h2, cond_true, cond_false]; try rfl; done) | rfl) trivial))))))))))))))) h
    | false =>
      have h2p := of_decide_eq_false h2
      have o0 : (0 : Int) < (↑s.size : Int) := by first | assumption | omega | (simp_all; done)
      cases h3 : decide (sbyte s 0 < 97) with
      | true =>
        have h3p := of_decide_eq_true h3
        exact Ret.of_run1 mix [(AV.bool (r63.v s))] Try.func63 rfl [.b false, .b false, .b false, .b false, .b false, .b false, .b false, .b false, .b true, .b true, .b true, .b true, .b true] (by simp) (by simp) (kmp (by kernel_rfl) (And.intro h1 (And.intro h1 (And.intro h1 (And.intro h1 (And.intro h2 (And.intro h2 (And.intro (And.intro (show (0 : Int) ≤ (0 : Int) by first | decide | exact Int.NonNeg.mk _) o0) (And.intro h2 (And.intro h2 (And.intro h3 (And.intro h3 (And.intro h3 (And.intro h3 (And.intro (rfl : true = true) (And.intro (show (AV.bool false) = ((AV.bool (r63.v s))) by first | (simp only [r63.v, h1, h2, h3, cond_true, cond_false]; done) | (try unfold r63.v; try simp only [h1, cond_true, cond_false]; try simp only [h2, cond_true, cond_false]; try simp only [h3, cond_true, cond_false]; try rfl; done) | rfl) trivial)))))))))))))))) h
      | false =>
        have h3p := of_decide_eq_false h3
        cases h4 : decide (sbyte s 0 > 122) with
        | true =>
          have h4p := of_decide_eq_true h4
          exact Ret.of_run1 mix [(AV.bool (r63.v s))] Try.func63 rfl [.b false, .b false, .b false, .b false, .b false, .b false, .b false, .b false, .b false, .b false, .b false, .b false, .b true] (by simp) (by simp) (kmp (by kernel_rfl) (And.intro h1 (And.intro h1 (And.intro h1 (And.intro h1 (And.intro h2 (And.intro h2 (And.intro (And.intro (show (0 : Int) ≤ (0 : Int) by first | decide | exact Int.NonNeg.mk _) o0) (And.intro h2 (And.intro h2 (And.intro h3 (And.intro h3 (And.intro (And.intro (show (0 : Int) ≤ (0 : Int) by first | decide | exact Int.NonNeg.mk _) o0) (And.intro h3 (And.intro h3 (And.intro h4 (And.intro (show (AV.bool false) = ((AV.bool (r63.v s))) by first | (simp only [r63.v, h1, h2, h3, h4, cond_true, cond_false]; done) | (try unfold r63.v; try simp only [h1, cond_true, cond_false]; try simp only [h2, cond_true, cond_false]; try simp only [h3, cond_true, cond_false]; try simp only [h4, cond_true, cond_false]; try rfl; done) | rfl) trivial))))))))))))))))) h
        | false =>
          have h4p := of_decide_eq_false h4
          have o1 : s.size ≤ (9223372036854775807 : Nat) := by first | assumption | omega | (simp_all; done)
          exact Ret.of_run1 mix [(AV.bool (r63.v s))] Try.func63 rfl [.b false, .b false, .b false, .b false, .b false, .b false, .b false, .b false, .b false, .b false, .b false, .b false, .b false, .ret (AV.int IntKind.i64 (r74.v s)) ([])] (by simp) (by simp) (kmp (by kernel_rfl) (And.intro h1 (And.intro h1 (And.intro h1 (And.intro h1 (And.intro h2 (And.intro h2 (And.intro (And.intro (show (0 : Int) ≤ (0 : Int) by first | decide | exact Int.NonNeg.mk _) o0) (And.intro h2 (And.intro h2 (And.intro h3 (And.intro h3 (And.intro (And.intro (show (0 : Int) ≤ (0 : Int) by first | decide | exact Int.NonNeg.mk _) o0) (And.intro h3 (And.intro h3 (And.intro h4 (And.intro (r74 (s) o1 ([])) (And.intro (show (AV.bool (r74.v s == (↑s.size : Int))) = ((AV.bool (r63.v s))) by first | (simp only [r63.v, h1, h2, h3, h4, cond_true, cond_false]; done) | (try unfold r63.v; try simp only [h1, cond_true, cond_false]; try simp only [h2, cond_true, cond_false]; try simp only [h3, cond_true, cond_false]; try simp only [h4, cond_true, cond_false]; try rfl; done) | rfl) trivial)))))))))))))))))) h

inductive L66.O where
  | e0
  | e1
noncomputable def L66.T (s : ByteArray) (i : Int) : List AV := mkT 56 [(0, AV.str s), (3, AV.int IntKind.i64 i)]
noncomputable def L66.H (s : ByteArray) (i : Int) : AHeap := []
def L66.inv (s : ByteArray) (i : Int) : Prop := 0 ≤ i ∧ i ≤ (↑s.size : Int)
noncomputable def L66.mu (s : ByteArray) (i : Int) : Nat := ((↑s.size : Int) - i).toNat
noncomputable def L66.E : L66.O → Exit
  | .e0 => Exit.ret
  | .e1 => Exit.exit 0
noncomputable def L66.X (s : ByteArray) : L66.O → List AV
  | .e0 => mkT 56 [(2, (AV.bool false))]
  | .e1 => mkT 56 []
noncomputable def L66.XH (s : ByteArray) : L66.O → AHeap
  | .e0 => ([])
  | .e1 => ([])
noncomputable def L66.N (s : ByteArray) : Nat → Int → L66.O
  | 0, _ => .e0
  | k_ + 1, i => (bif decide (i < (↑s.size : Int)) then (bif decide (sbyte s i.toNat < 97) then (bif decide (sbyte s i.toNat < 48) then (bif sbyte s i.toNat == 95 then (L66.N s k_ (IntKind.i64.wrap (i + 1))) else (.e0)) else (bif decide (sbyte s i.toNat > 57) then (bif sbyte s i.toNat == 95 then (L66.N s k_ (IntKind.i64.wrap (i + 1))) else (.e0)) else (L66.N s k_ (IntKind.i64.wrap (i + 1))))) else (bif decide (sbyte s i.toNat > 122) then (bif decide (sbyte s i.toNat < 48) then (bif sbyte s i.toNat == 95 then (L66.N s k_ (IntKind.i64.wrap (i + 1))) else (.e0)) else (bif decide (sbyte s i.toNat > 57) then (bif sbyte s i.toNat == 95 then (L66.N s k_ (IntKind.i64.wrap (i + 1))) else (.e0)) else (L66.N s k_ (IntKind.i64.wrap (i + 1))))) else (L66.N s k_ (IntKind.i64.wrap (i + 1))))) else (.e1))
noncomputable def L66.run (s : ByteArray) (i : Int) : L66.O := L66.N s ((((↑s.size : Int) - i).toNat) + 1) i
def L66.Next (s : ByteArray) (k_ : Nat) (z_ : Int) (T_ : List AV) (h_ : AHeap) : Prop := LNextP (fun (z_ : Int) => L66.T s z_) (fun (z_ : Int) => L66.H s z_) (fun (z_ : Int) => L66.inv s z_) (fun (z_ : Int) => L66.mu s z_) (fun (k_ : Nat) (z_ : Int) => L66.N s k_ z_) k_ z_ T_ h_
def L66.End (s : ByteArray) (k_ : Nat) (z_ : Int) (e_ : Exit) (T_ : List AV) (h_ : AHeap) : Prop := LEndP (fun (z_ : Int) => L66.H s z_) (fun (k_ : Nat) (z_ : Int) => L66.N s k_ z_) L66.E (L66.X s) (L66.XH s) k_ z_ e_ T_ h_
theorem L66.nx (s : ByteArray) {k_ : Nat} {z_ : Int} {h_ : AHeap} (s_ : Int) (h1 : L66.inv s s_) (h2 : L66.mu s s_ < L66.mu s z_) (h3 : L66.N s k_ s_ = L66.N s (k_ + 1) z_) (h4 : PopOk (L66.H s z_) h_ (L66.T s s_) (L66.H s s_)) : LNextP (fun (z_ : Int) => L66.T s z_) (fun (z_ : Int) => L66.H s z_) (fun (z_ : Int) => L66.inv s z_) (fun (z_ : Int) => L66.mu s z_) (fun (k_ : Nat) (z_ : Int) => L66.N s k_ z_) k_ z_ (L66.T s s_) h_ := LNextP.mk (Tm := (fun (z_ : Int) => L66.T s z_)) (Hp := (fun (z_ : Int) => L66.H s z_)) (inv := (fun (z_ : Int) => L66.inv s z_)) (mu := (fun (z_ : Int) => L66.mu s z_)) (l := (fun (k_ : Nat) (z_ : Int) => L66.N s k_ z_)) s_ h1 h2 h3 h4
theorem L66.en (s : ByteArray) {k_ : Nat} {z_ : Int} {h_ : AHeap} (o_ : L66.O) (h3 : L66.N s (k_ + 1) z_ = o_) (h4 : PopOk (L66.H s z_) h_ (L66.X s o_) (L66.XH s o_)) : LEndP (fun (z_ : Int) => L66.H s z_) (fun (k_ : Nat) (z_ : Int) => L66.N s k_ z_) L66.E (L66.X s) (L66.XH s) k_ z_ (L66.E o_) (L66.X s o_) h_ := LEndP.mk (Hp := (fun (z_ : Int) => L66.H s z_)) (l := (fun (k_ : Nat) (z_ : Int) => L66.N s k_ z_)) (oE := L66.E) (oT := L66.X s) (oH := L66.XH s) o_ h3 h4
theorem L66.spec (s : ByteArray) (hs : s.size ≤ 9223372036854775807) (k_ : Nat) (z_ : Int) (hi_ : L66.inv s z_) (hm_ : L66.mu s z_ < k_) : LoopTo Try.prog (loopN Try.f66 0) (L66.T s z_) (L66.H s z_) (L66.E (L66.N s k_ z_)) (L66.X s (L66.N s k_ z_)) (L66.XH s (L66.N s k_ z_)) := by
  refine LoopTo.fuelP mix (fun (z_ : Int) => L66.T s z_) (fun (z_ : Int) => L66.H s z_) (fun (z_ : Int) => L66.inv s z_) (fun (z_ : Int) => L66.mu s z_) (fun (k_ : Nat) (z_ : Int) => L66.N s k_ z_) L66.E (L66.X s) (L66.XH s) (others 56 [0, 3]) (others 56 [2]) (others 56 []) ?_ k_ z_ hi_ hm_
  clear hm_ hi_ z_ k_
  intro k_ z_ hinv hmu
  revert hinv hmu; revert z_; intro i hinv hmu
  have hinv : 0 ≤ i ∧ i ≤ (↑s.size : Int) := hinv
  have hmu : (((↑s.size : Int) - i).toNat) < k_ + 1 := hmu
  cases h1 : decide (i < (↑s.size : Int)) with
  | true =>
    have h1p := of_decide_eq_true h1
    have o1 : (0 : Int) ≤ i := by first | assumption | omega | (simp_all; done)
    have o2 : i < (↑s.size : Int) := by first | assumption | omega | (simp_all; done)
    cases h2 : decide (sbyte s i.toNat < 97) with
    | true =>
      have h2p := of_decide_eq_true h2
      cases h3 : decide (sbyte s i.toNat < 48) with
      | true =>
        have h3p := of_decide_eq_true h3
        cases h4 : sbyte s i.toNat == 95 with
        | true =>
          have h4p := eq_of_beq h4
          try have := IntWalk.i64_in (i + 1) (by omega)
          have o3 : (0 : Int) ≤ IntKind.i64.wrap (i + (1 : Int)) := by first | assumption | omega | (simp_all; done)
          have o4 : IntKind.i64.wrap (i + (1 : Int)) ≤ (↑s.size : Int) := by first | assumption | omega | (simp_all; done)
          have o5 : ((↑s.size : Int) - IntKind.i64.wrap (i + (1 : Int))).toNat < ((↑s.size : Int) - i).toNat := by first | assumption | omega | (simp_all; done)
          exact ⟨[.b true, .b true, .b true, .b true, .b true, .b true, .b true, .b true, .b true, .b true, .b true, .b true, .b true, .b true, .b true, .b true, .b true, .b true, .b true, .b true, .b true, .b true, .b true, .b false], kmp (by kernel_rfl) (And.intro h1 (And.intro (And.intro o1 o2) (And.intro h2 (And.intro h2 (And.intro h2 (And.intro h2 (And.intro h2 (And.intro (rfl : true = true) (And.intro (rfl : true = true) (And.intro (rfl : true = true) (And.intro (And.intro o1 o2) (And.intro (rfl : true = true) (And.intro (rfl : true = true) (And.intro h3 (And.intro h3 (And.intro h3 (And.intro h3 (And.intro (rfl : true = true) (And.intro h3 (And.intro (rfl : true = true) (And.intro (rfl : true = true) (And.intro (rfl : true = true) (And.intro (rfl : true = true) (And.intro (And.intro o1 o2) (And.intro (rfl : true = true) (And.intro (rfl : true = true) (And.intro (show (bnot (sbyte s i.toNat == 95)) = false by rw [h4]; try rfl) (L66.nx s (k_ := k_) (z_ := i) (IntKind.i64.wrap (i + 1)) (And.intro o3 o4) o5 (by first | (simp only [L66.N, h1, h2, h3, h4, cond_true, cond_false]; done) | (try unfold L66.N; try simp only [h1, cond_true, cond_false]; try simp only [h2, cond_true, cond_false]; try simp only [h3, cond_true, cond_false]; try simp only [h4, cond_true, cond_false]; try rfl; done)) PopOk.same))))))))))))))))))))))))))))⟩
        | false =>
          have h4p := ne_of_beq_false h4
          exact ⟨[.b true, .b true, .b true, .b true, .b true, .b true, .b true, .b true, .b true, .b true, .b true, .b true, .b true, .b true, .b true, .b true, .b true, .b true, .b true, .b true, .b true, .b true, .b true, .b true], kmp (by kernel_rfl) (And.intro h1 (And.intro (And.intro o1 o2) (And.intro h2 (And.intro h2 (And.intro h2 (And.intro h2 (And.intro h2 (And.intro (rfl : true = true) (And.intro (rfl : true = true) (And.intro (rfl : true = true) (And.intro (And.intro o1 o2) (And.intro (rfl : true = true) (And.intro (rfl : true = true) (And.intro h3 (And.intro h3 (And.intro h3 (And.intro h3 (And.intro (rfl : true = true) (And.intro h3 (And.intro (rfl : true = true) (And.intro (rfl : true = true) (And.intro (rfl : true = true) (And.intro (rfl : true = true) (And.intro (And.intro o1 o2) (And.intro (rfl : true = true) (And.intro (rfl : true = true) (And.intro (show (bnot (sbyte s i.toNat == 95)) = true by rw [h4]; try rfl) (L66.en s (k_ := k_) (z_ := i) (.e0 : L66.O) (by first | (simp only [L66.N, h1, h2, h3, h4, cond_true, cond_false]; done) | (try unfold L66.N; try simp only [h1, cond_true, cond_false]; try simp only [h2, cond_true, cond_false]; try simp only [h3, cond_true, cond_false]; try simp only [h4, cond_true, cond_false]; try rfl; done)) PopOk.same))))))))))))))))))))))))))))⟩
      | false =>
        have h3p := of_decide_eq_false h3
        cases h4 : decide (sbyte s i.toNat > 57) with
        | true =>
          have h4p := of_decide_eq_true h4
          cases h5 : sbyte s i.toNat == 95 with
          | true =>
            have h5p := eq_of_beq h5
            try have := IntWalk.i64_in (i + 1) (by omega)
            have o3 : (0 : Int) ≤ IntKind.i64.wrap (i + (1 : Int)) := by first | assumption | omega | (simp_all; done)
            have o4 : IntKind.i64.wrap (i + (1 : Int)) ≤ (↑s.size : Int) := by first | assumption | omega | (simp_all; done)
            have o5 : ((↑s.size : Int) - IntKind.i64.wrap (i + (1 : Int))).toNat < ((↑s.size : Int) - i).toNat := by first | assumption | omega | (simp_all; done)
            exact ⟨[.b true, .b true, .b true, .b true, .b true, .b true, .b true, .b true, .b true, .b true, .b true, .b false, .b false, .b false, .b false, .b true, .b false, .b true, .b true, .b true, .b true, .b true, .b true, .b false], kmp (by kernel_rfl) (And.intro h1 (And.intro (And.intro o1 o2) (And.intro h2 (And.intro h2 (And.intro h2 (And.intro h2 (And.intro h2 (And.intro (rfl : true = true) (And.intro (rfl : true = true) (And.intro (rfl : true = true) (And.intro (And.intro o1 o2) (And.intro (rfl : true = true) (And.intro (rfl : true = true) (And.intro h3 (And.intro h3 (And.intro h3 (And.intro (And.intro o1 o2) (And.intro h3 (And.intro (rfl : true = true) (And.intro h3 (And.intro (rfl : true = true) (And.intro h4 (And.intro h4 (And.intro h4 (And.intro (And.intro o1 o2) (And.intro h4 (And.intro h4 (And.intro (show (bnot (sbyte s i.toNat == 95)) = false by rw [h5]; try rfl) (L66.nx s (k_ := k_) (z_ := i) (IntKind.i64.wrap (i + 1)) (And.intro o3 o4) o5 (by first | (simp only [L66.N, h1, h2, h3, h4, h5, cond_true, cond_false]; done) | (try unfold L66.N; try simp only [h1, cond_true, cond_false]; try simp only [h2, cond_true, cond_false]; try simp only [h3, cond_true, cond_false]; try simp only [h4, cond_true, cond_false]; try simp only [h5, cond_true, cond_false]; try rfl; done)) PopOk.same)))))))))))))))))))))))))))))⟩
          | false =>
            have h5p := ne_of_beq_false h5
            exact ⟨[.b true, .b true, .b true, .b true, .b true, .b true, .b true, .b true, .b true, .b true, .b true, .b false, .b false, .b false, .b false, .b true, .b false, .b true, .b true, .b true, .b true, .b true, .b true, .b true], kmp (by kernel_rfl) (And.intro h1 (And.intro (And.intro o1 o2) (And.intro h2 (And.intro h2 (And.intro h2 (And.intro h2 (And.intro h2 (And.intro (rfl : true = true) (And.intro (rfl : true = true) (And.intro (rfl : true = true) (And.intro (And.intro o1 o2) (And.intro (rfl : true = true) (And.intro (rfl : true = true) (And.intro h3 (And.intro h3 (And.intro h3 (And.intro (And.intro o1 o2) (And.intro h3 (And.intro (rfl : true = true) (And.intro h3 (And.intro (rfl : true = true) (And.intro h4 (And.intro h4 (And.intro h4 (And.intro (And.intro o1 o2) (And.intro h4 (And.intro h4 (And.intro (show (bnot (sbyte s i.toNat == 95)) = true by rw [h5]; try rfl) (L66.en s (k_ := k_) (z_ := i) (.e0 : L66.O) (by first | (simp only [L66.N, h1, h2, h3, h4, h5, cond_true, cond_false]; done) | (try unfold L66.N; try simp only [h1, cond_true, cond_false]; try simp only [h2, cond_true, cond_false]; try simp only [h3, cond_true, cond_false]; try simp only [h4, cond_true, cond_false]; try simp only [h5, cond_true, cond_false]; try rfl; done)) PopOk.same)))))))))))))))))))))))))))))⟩
        | false =>
          have h4p := of_decide_eq_false h4
          try have := IntWalk.i64_in (i + 1) (by omega)
          have o3 : (0 : Int) ≤ IntKind.i64.wrap (i + (1 : Int)) := by first | assumption | omega | (simp_all; done)
          have o4 : IntKind.i64.wrap (i + (1 : Int)) ≤ (↑s.size : Int) := by first | assumption | omega | (simp_all; done)
          have o5 : ((↑s.size : Int) - IntKind.i64.wrap (i + (1 : Int))).toNat < ((↑s.size : Int) - i).toNat := by first | assumption | omega | (simp_all; done)
          exact ⟨[.b true, .b true, .b true, .b true, .b true, .b true, .b true, .b true, .b true, .b true, .b true, .b false, .b false, .b false, .b false, .b true, .b false, .b true, .b false, .b false, .b false, .b false, .b false, .b false], kmp (by kernel_rfl) (And.intro h1 (And.intro (And.intro o1 o2) (And.intro h2 (And.intro h2 (And.intro h2 (And.intro h2 (And.intro h2 (And.intro (rfl : true = true) (And.intro (rfl : true = true) (And.intro (rfl : true = true) (And.intro (And.intro o1 o2) (And.intro (rfl : true = true) (And.intro (rfl : true = true) (And.intro h3 (And.intro h3 (And.intro h3 (And.intro (And.intro o1 o2) (And.intro h3 (And.intro (rfl : true = true) (And.intro h3 (And.intro (rfl : true = true) (And.intro h4 (And.intro h4 (And.intro h4 (And.intro h4 (And.intro h4 (And.intro (rfl : false = false) (L66.nx s (k_ := k_) (z_ := i) (IntKind.i64.wrap (i + 1)) (And.intro o3 o4) o5 (by first | (simp only [L66.N, h1, h2, h3, h4, cond_true, cond_false]; done) | (try unfold L66.N; try simp only [h1, cond_true, cond_false]; try simp only [h2, cond_true, cond_false]; try simp only [h3, cond_true, cond_false]; try simp only [h4, cond_true, cond_false]; try rfl; done)) PopOk.same))))))))))))))))))))))))))))⟩
    | false =>
      have h2p := of_decide_eq_false h2
      cases h3 : decide (sbyte s i.toNat > 122) with
      | true =>
        have h3p := of_decide_eq_true h3
        cases h4 : decide (sbyte s i.toNat < 48) with
        | true =>
          have h4p := of_decide_eq_true h4
          cases h5 : sbyte s i.toNat == 95 with
          | true =>
            have h5p := eq_of_beq h5
            try have := IntWalk.i64_in (i + 1) (by omega)
            have o3 : (0 : Int) ≤ IntKind.i64.wrap (i + (1 : Int)) := by first | assumption | omega | (simp_all; done)
            have o4 : IntKind.i64.wrap (i + (1 : Int)) ≤ (↑s.size : Int) := by first | assumption | omega | (simp_all; done)
            have o5 : ((↑s.size : Int) - IntKind.i64.wrap (i + (1 : Int))).toNat < ((↑s.size : Int) - i).toNat := by first | assumption | omega | (simp_all; done)
            exact ⟨[.b true, .b false, .b false, .b false, .b false, .b false, .b true, .b true, .b true, .b true, .b true, .b true, .b true, .b true, .b true, .b true, .b true, .b true, .b true, .b true, .b true, .b true, .b true, .b false], kmp (by kernel_rfl) (And.intro h1 (And.intro (And.intro o1 o2) (And.intro h2 (And.intro h2 (And.intro h2 (And.intro (And.intro o1 o2) (And.intro h2 (And.intro h2 (And.intro h3 (And.intro h3 (And.intro h3 (And.intro (And.intro o1 o2) (And.intro h3 (And.intro h3 (And.intro h4 (And.intro h4 (And.intro h4 (And.intro h4 (And.intro h3 (And.intro h4 (And.intro h3 (And.intro (rfl : true = true) (And.intro (rfl : true = true) (And.intro (rfl : true = true) (And.intro (And.intro o1 o2) (And.intro (rfl : true = true) (And.intro (rfl : true = true) (And.intro (show (bnot (sbyte s i.toNat == 95)) = false by rw [h5]; try rfl) (L66.nx s (k_ := k_) (z_ := i) (IntKind.i64.wrap (i + 1)) (And.intro o3 o4) o5 (by first | (simp only [L66.N, h1, h2, h3, h4, h5, cond_true, cond_false]; done) | (try unfold L66.N; try simp only [h1, cond_true, cond_false]; try simp only [h2, cond_true, cond_false]; try simp only [h3, cond_true, cond_false]; try simp only [h4, cond_true, cond_false]; try simp only [h5, cond_true, cond_false]; try rfl; done)) PopOk.same)))))))))))))))))))))))))))))⟩
          | false =>
            have h5p := ne_of_beq_false h5
            exact ⟨[.b true, .b false, .b false, .b false, .b false, .b false, .b true, .b true, .b true, .b true, .b true, .b true, .b true, .b true, .b true, .b true, .b true, .b true, .b true, .b true, .b true, .b true, .b true, .b true], kmp (by kernel_rfl) (And.intro h1 (And.intro (And.intro o1 o2) (And.intro h2 (And.intro h2 (And.intro h2 (And.intro (And.intro o1 o2) (And.intro h2 (And.intro h2 (And.intro h3 (And.intro h3 (And.intro h3 (And.intro (And.intro o1 o2) (And.intro h3 (And.intro h3 (And.intro h4 (And.intro h4 (And.intro h4 (And.intro h4 (And.intro h3 (And.intro h4 (And.intro h3 (And.intro (rfl : true = true) (And.intro (rfl : true = true) (And.intro (rfl : true = true) (And.intro (And.intro o1 o2) (And.intro (rfl : true = true) (And.intro (rfl : true = true) (And.intro (show (bnot (sbyte s i.toNat == 95)) = true by rw [h5]; try rfl) (L66.en s (k_ := k_) (z_ := i) (.e0 : L66.O) (by first | (simp only [L66.N, h1, h2, h3, h4, h5, cond_true, cond_false]; done) | (try unfold L66.N; try simp only [h1, cond_true, cond_false]; try simp only [h2, cond_true, cond_false]; try simp only [h3, cond_true, cond_false]; try simp only [h4, cond_true, cond_false]; try simp only [h5, cond_true, cond_false]; try rfl; done)) PopOk.same)))))))))))))))))))))))))))))⟩
        | false =>
          have h4p := of_decide_eq_false h4
          cases h5 : decide (sbyte s i.toNat > 57) with
          | true =>
            have h5p := of_decide_eq_true h5
            cases h6 : sbyte s i.toNat == 95 with
            | true =>
              have h6p := eq_of_beq h6
              try have := IntWalk.i64_in (i + 1) (by omega)
              have o3 : (0 : Int) ≤ IntKind.i64.wrap (i + (1 : Int)) := by first | assumption | omega | (simp_all; done)
              have o4 : IntKind.i64.wrap (i + (1 : Int)) ≤ (↑s.size : Int) := by first | assumption | omega | (simp_all; done)
              have o5 : ((↑s.size : Int) - IntKind.i64.wrap (i + (1 : Int))).toNat < ((↑s.size : Int) - i).toNat := by first | assumption | omega | (simp_all; done)
              exact ⟨[.b true, .b false, .b false, .b false, .b false, .b false, .b true, .b true, .b true, .b true, .b true, .b false, .b false, .b false, .b false, .b true, .b false, .b true, .b true, .b true, .b true, .b true, .b true, .b false], kmp (by kernel_rfl) (And.intro h1 (And.intro (And.intro o1 o2) (And.intro h2 (And.intro h2 (And.intro h2 (And.intro (And.intro o1 o2) (And.intro h2 (And.intro h2 (And.intro h3 (And.intro h3 (And.intro h3 (And.intro (And.intro o1 o2) (And.intro h3 (And.intro h3 (And.intro h4 (And.intro h4 (And.intro h4 (And.intro (And.intro o1 o2) (And.intro h4 (And.intro h3 (And.intro h4 (And.intro h3 (And.intro h5 (And.intro h5 (And.intro h5 (And.intro (And.intro o1 o2) (And.intro h5 (And.intro h5 (And.intro (show (bnot (sbyte s i.toNat == 95)) = false by rw [h6]; try rfl) (L66.nx s (k_ := k_) (z_ := i) (IntKind.i64.wrap (i + 1)) (And.intro o3 o4) o5 (by first | (simp only [L66.N, h1, h2, h3, h4, h5, h6, cond_true, cond_false]; done) | (try unfold L66.N; try simp only [h1, cond_true, cond_false]; try simp only [h2, cond_true, cond_false]; try simp only [h3, cond_true, cond_false]; try simp only [h4, cond_true, cond_false]; try simp only [h5, cond_true, cond_false]; try simp only [h6, cond_true, cond_false]; try rfl; done)) PopOk.same))))))))))))))))))))))))))))))⟩
            | false =>
              have h6p := ne_of_beq_false h6
              exact ⟨[.b true, .b false, .b false, .b false, .b false, .b false, .b true, .b true, .b true, .b true, .b true, .b false, .b false, .b false, .b false, .b true, .b false, .b true, .b true, .b true, .b true, .b true, .b true, .b true], kmp (by kernel_rfl) (And.intro h1 (And.intro (And.intro o1 o2) (And.intro h2 (And.intro h2 (And.intro h2 (And.intro (And.intro o1 o2) (And.intro h2 (And.intro h2 (And.intro h3 (And.intro h3 (And.intro h3 (And.intro (And.intro o1 o2) (And.intro h3 (And.intro h3 (And.intro h4 (And.intro h4 (And.intro h4 (And.intro (And.intro o1 o2) (And.intro h4 (And.intro h3 (And.intro h4 (And.intro h3 (And.intro h5 (And.intro h5 (And.intro h5 (And.intro (And.intro o1 o2) (And.intro h5 (And.intro h5 (And.intro (show (bnot (sbyte s i.toNat == 95)) = true by rw [h6]; try rfl) (L66.en s (k_ := k_) (z_ := i) (.e0 : L66.O) (by first | (simp only [L66.N, h1, h2, h3, h4, h5, h6, cond_true, cond_false]; done) | (try unfold L66.N; try simp only [h1, cond_true, cond_false]; try simp only [h2, cond_true, cond_false]; try simp only [h3, cond_true, cond_false]; try simp only [h4, cond_true, cond_false]; try simp only [h5, cond_true, cond_false]; try simp only [h6, cond_true, cond_false]; try rfl; done)) PopOk.same))))))))))))))))))))))))))))))⟩
          | false =>
            have h5p := of_decide_eq_false h5
            try have := IntWalk.i64_in (i + 1) (by omega)
            have o3 : (0 : Int) ≤ IntKind.i64.wrap (i + (1 : Int)) := by first | assumption | omega | (simp_all; done)
            have o4 : IntKind.i64.wrap (i + (1 : Int)) ≤ (↑s.size : Int) := by first | assumption | omega | (simp_all; done)
            have o5 : ((↑s.size : Int) - IntKind.i64.wrap (i + (1 : Int))).toNat < ((↑s.size : Int) - i).toNat := by first | assumption | omega | (simp_all; done)
            exact ⟨[.b true, .b false, .b false, .b false, .b false, .b false, .b true, .b true, .b true, .b true, .b true, .b false, .b false, .b false, .b false, .b true, .b false, .b true, .b false, .b false, .b false, .b false, .b false, .b false], kmp (by kernel_rfl) (And.intro h1 (And.intro (And.intro o1 o2) (And.intro h2 (And.intro h2 (And.intro h2 (And.intro (And.intro o1 o2) (And.intro h2 (And.intro h2 (And.intro h3 (And.intro h3 (And.intro h3 (And.intro (And.intro o1 o2) (And.intro h3 (And.intro h3 (And.intro h4 (And.intro h4 (And.intro h4 (And.intro (And.intro o1 o2) (And.intro h4 (And.intro h3 (And.intro h4 (And.intro h3 (And.intro h5 (And.intro h5 (And.intro h5 (And.intro h5 (And.intro h5 (And.intro (rfl : false = false) (L66.nx s (k_ := k_) (z_ := i) (IntKind.i64.wrap (i + 1)) (And.intro o3 o4) o5 (by first | (simp only [L66.N, h1, h2, h3, h4, h5, cond_true, cond_false]; done) | (try unfold L66.N; try simp only [h1, cond_true, cond_false]; try simp only [h2, cond_true, cond_false]; try simp only [h3, cond_true, cond_false]; try simp only [h4, cond_true, cond_false]; try simp only [h5, cond_true, cond_false]; try rfl; done)) PopOk.same)))))))))))))))))))))))))))))⟩
      | false =>
        have h3p := of_decide_eq_false h3
        try have := IntWalk.i64_in (i + 1) (by omega)
        have o3 : (0 : Int) ≤ IntKind.i64.wrap (i + (1 : Int)) := by first | assumption | omega | (simp_all; done)
        have o4 : IntKind.i64.wrap (i + (1 : Int)) ≤ (↑s.size : Int) := by first | assumption | omega | (simp_all; done)
        have o5 : ((↑s.size : Int) - IntKind.i64.wrap (i + (1 : Int))).toNat < ((↑s.size : Int) - i).toNat := by first | assumption | omega | (simp_all; done)
        exact ⟨[.b true, .b false, .b false, .b false, .b false, .b false, .b false, .b false, .b false, .b false, .b false, .b false, .b false, .b false, .b false, .b false, .b false, .b false, .b false], kmp (by kernel_rfl) (And.intro h1 (And.intro (And.intro o1 o2) (And.intro h2 (And.intro h2 (And.intro h2 (And.intro (And.intro o1 o2) (And.intro h2 (And.intro h2 (And.intro h3 (And.intro h3 (And.intro h3 (And.intro h3 (And.intro h3 (And.intro h3 (And.intro h3 (And.intro (rfl : false = false) (And.intro (rfl : false = false) (And.intro (rfl : false = false) (And.intro (rfl : false = false) (And.intro (rfl : false = false) (And.intro (rfl : false = false) (L66.nx s (k_ := k_) (z_ := i) (IntKind.i64.wrap (i + 1)) (And.intro o3 o4) o5 (by first | (simp only [L66.N, h1, h2, h3, cond_true, cond_false]; done) | (try unfold L66.N; try simp only [h1, cond_true, cond_false]; try simp only [h2, cond_true, cond_false]; try simp only [h3, cond_true, cond_false]; try rfl; done)) PopOk.same))))))))))))))))))))))⟩
  | false =>
    have h1p := of_decide_eq_false h1
    exact ⟨[.b false], kmp (by kernel_rfl) (And.intro h1 (L66.en s (k_ := k_) (z_ := i) (.e1 : L66.O) (by first | (simp only [L66.N, h1, cond_true, cond_false]; done) | (try unfold L66.N; try simp only [h1, cond_true, cond_false]; try rfl; done)) PopOk.same))⟩
theorem L66.e0 (s : ByteArray) (hs : s.size ≤ 9223372036854775807) (i : Int) (hinv : L66.inv s i) (hN : L66.run s i = (.e0 : L66.O)) : LoopTo Try.prog (loopN Try.f66 0) (L66.T s i) (L66.H s i) (Exit.ret) (L66.X s (.e0 : L66.O)) (L66.XH s (.e0 : L66.O)) := by
  have h_ := L66.spec s hs ((((↑s.size : Int) - i).toNat) + 1) i hinv (Nat.lt_succ_self _)
  unfold L66.run at hN
  simp only [hN] at h_
  exact h_
theorem L66.e1 (s : ByteArray) (hs : s.size ≤ 9223372036854775807) (i : Int) (hinv : L66.inv s i) (hN : L66.run s i = (.e1 : L66.O)) : LoopTo Try.prog (loopN Try.f66 0) (L66.T s i) (L66.H s i) (Exit.exit 0) (L66.X s (.e1 : L66.O)) (L66.XH s (.e1 : L66.O)) := by
  have h_ := L66.spec s hs ((((↑s.size : Int) - i).toNat) + 1) i hinv (Nat.lt_succ_self _)
  unfold L66.run at hN
  simp only [hN] at h_
  exact h_

noncomputable def r66.v (s : ByteArray) : Bool := (bif decide ((↑s.size : Int) < 1) then false else (bif decide ((↑s.size : Int) > 24) then false else (bif decide (sbyte s 0 < 97) then false else (bif decide (sbyte s 0 > 122) then false else (match L66.run s 0 with | .e0 => false | .e1 => true )))))
theorem r66 (s : ByteArray) (hs : s.size ≤ 9223372036854775807) (h : AHeap) : Ret Try.prog 66 ([AV.str s]) h (AV.bool (r66.v s)) h := by
  cases h1 : decide ((↑s.size : Int) < 1) with
  | true =>
    have h1p := of_decide_eq_true h1
    exact Ret.of_run1 mix [(AV.bool (r66.v s))] Try.func66 rfl [.b true, .b true, .b true, .b true, .b true, .b true, .b true, .b true, .b true, .b true, .b true, .b true, .b true] (by simp) (by simp) (kmp (by kernel_rfl) (And.intro h1 (And.intro h1 (And.intro h1 (And.intro h1 (And.intro (rfl : true = true) (And.intro (rfl : true = true) (And.intro (rfl : true = true) (And.intro (rfl : true = true) (And.intro (rfl : true = true) (And.intro (rfl : true = true) (And.intro (rfl : true = true) (And.intro (rfl : true = true) (And.intro (rfl : true = true) (And.intro (show (AV.bool false) = ((AV.bool (r66.v s))) by first | (simp only [r66.v, h1, cond_true, cond_false]; done) | (try unfold r66.v; try simp only [h1, cond_true, cond_false]; try rfl; done) | rfl) trivial))))))))))))))) h
  | false =>
    have h1p := of_decide_eq_false h1
    cases h2 : decide ((↑s.size : Int) > 24) with
    | true =>
      have h2p := of_decide_eq_true h2
      exact Ret.of_run1 mix [(AV.bool (r66.v s))] Try.func66 rfl [.b false, .b false, .b false, .b false, .b true, .b true, .b true, .b true, .b true, .b true, .b true, .b true, .b true] (by simp) (by simp) (kmp (by kernel_rfl) (And.intro h1 (And.intro h1 (And.intro h1 (And.intro h1 (And.intro h2 (And.intro h2 (And.intro h2 (And.intro h2 (And.intro (rfl : true = true) (And.intro (rfl : true = true) (And.intro (rfl : true = true) (And.intro (rfl : true = true) (And.intro (rfl : true = true) (And.intro (show (AV.bool false) = ((AV.bool (r66.v s))) by first | (simp only [r66.v, h1, h2, cond_true, cond_false]; done) | (try unfold r66.v; try simp only [h1, cond_true, cond_false]; try simp only [h2, cond_true, cond_false]; try rfl; done) | rfl) trivial))))))))))))))) h
    | false =>
      have h2p := of_decide_eq_false h2
      have o0 : (0 : Int) < (↑s.size : Int) := by first | assumption | omega | (simp_all; done)
      cases h3 : decide (sbyte s 0 < 97) with
      | true =>
        have h3p := of_decide_eq_true h3
        exact Ret.of_run1 mix [(AV.bool (r66.v s))] Try.func66 rfl [.b false, .b false, .b false, .b false, .b false, .b false, .b false, .b false, .b true, .b true, .b true, .b true, .b true] (by simp) (by simp) (kmp (by kernel_rfl) (And.intro h1 (And.intro h1 (And.intro h1 (And.intro h1 (And.intro h2 (And.intro h2 (And.intro (And.intro (show (0 : Int) ≤ (0 : Int) by first | decide | exact Int.NonNeg.mk _) o0) (And.intro h2 (And.intro h2 (And.intro h3 (And.intro h3 (And.intro h3 (And.intro h3 (And.intro (rfl : true = true) (And.intro (show (AV.bool false) = ((AV.bool (r66.v s))) by first | (simp only [r66.v, h1, h2, h3, cond_true, cond_false]; done) | (try unfold r66.v; try simp only [h1, cond_true, cond_false]; try simp only [h2, cond_true, cond_false]; try simp only [h3, cond_true, cond_false]; try rfl; done) | rfl) trivial)))))))))))))))) h
      | false =>
        have h3p := of_decide_eq_false h3
        cases h4 : decide (sbyte s 0 > 122) with
        | true =>
          have h4p := of_decide_eq_true h4
          exact Ret.of_run1 mix [(AV.bool (r66.v s))] Try.func66 rfl [.b false, .b false, .b false, .b false, .b false, .b false, .b false, .b false, .b false, .b false, .b false, .b false, .b true] (by simp) (by simp) (kmp (by kernel_rfl) (And.intro h1 (And.intro h1 (And.intro h1 (And.intro h1 (And.intro h2 (And.intro h2 (And.intro (And.intro (show (0 : Int) ≤ (0 : Int) by first | decide | exact Int.NonNeg.mk _) o0) (And.intro h2 (And.intro h2 (And.intro h3 (And.intro h3 (And.intro (And.intro (show (0 : Int) ≤ (0 : Int) by first | decide | exact Int.NonNeg.mk _) o0) (And.intro h3 (And.intro h3 (And.intro h4 (And.intro (show (AV.bool false) = ((AV.bool (r66.v s))) by first | (simp only [r66.v, h1, h2, h3, h4, cond_true, cond_false]; done) | (try unfold r66.v; try simp only [h1, cond_true, cond_false]; try simp only [h2, cond_true, cond_false]; try simp only [h3, cond_true, cond_false]; try simp only [h4, cond_true, cond_false]; try rfl; done) | rfl) trivial))))))))))))))))) h
        | false =>
          have h4p := of_decide_eq_false h4
          have o1 : s.size ≤ (9223372036854775807 : Nat) := by first | assumption | omega | (simp_all; done)
          have o2 : (0 : Int) ≤ (↑s.size : Int) := by first | assumption | omega | (simp_all; done)
          cases h5 : L66.run s 0 with
          | e0 =>
            exact Ret.of_run1 mix [(AV.bool (r66.v s))] Try.func66 rfl [.b false, .b false, .b false, .b false, .b false, .b false, .b false, .b false, .b false, .b false, .b false, .b false, .b false, .loop (others 56 [0, 3]) (Exit.ret) (L66.X s L66.O.e0) (L66.XH s L66.O.e0)] (by simp) (by simp) (kmp (by kernel_rfl) (And.intro h1 (And.intro h1 (And.intro h1 (And.intro h1 (And.intro h2 (And.intro h2 (And.intro (And.intro (show (0 : Int) ≤ (0 : Int) by first | decide | exact Int.NonNeg.mk _) o0) (And.intro h2 (And.intro h2 (And.intro h3 (And.intro h3 (And.intro (And.intro (show (0 : Int) ≤ (0 : Int) by first | decide | exact Int.NonNeg.mk _) o0) (And.intro h3 (And.intro h3 (And.intro h4 (And.intro (L66.e0 (s) o1 (0) (And.intro (show (0 : Int) ≤ (0 : Int) by first | decide | exact Int.NonNeg.mk _) o2) h5) (And.intro (show (AV.bool false) = ((AV.bool (r66.v s))) by first | (simp only [r66.v, h1, h2, h3, h4, h5, cond_true, cond_false]; done) | (try unfold r66.v; try simp only [h1, cond_true, cond_false]; try simp only [h2, cond_true, cond_false]; try simp only [h3, cond_true, cond_false]; try simp only [h4, cond_true, cond_false]; try simp only [h5, cond_true, cond_false]; try rfl; done) | rfl) trivial)))))))))))))))))) h
          | e1 =>
            exact Ret.of_run1 mix [(AV.bool (r66.v s))] Try.func66 rfl [.b false, .b false, .b false, .b false, .b false, .b false, .b false, .b false, .b false, .b false, .b false, .b false, .b false, .loop (others 56 [0, 3]) (Exit.exit 0) (L66.X s L66.O.e1) (L66.XH s L66.O.e1)] (by simp) (by simp) (kmp (by kernel_rfl) (And.intro h1 (And.intro h1 (And.intro h1 (And.intro h1 (And.intro h2 (And.intro h2 (And.intro (And.intro (show (0 : Int) ≤ (0 : Int) by first | decide | exact Int.NonNeg.mk _) o0) (And.intro h2 (And.intro h2 (And.intro h3 (And.intro h3 (And.intro (And.intro (show (0 : Int) ≤ (0 : Int) by first | decide | exact Int.NonNeg.mk _) o0) (And.intro h3 (And.intro h3 (And.intro h4 (And.intro (L66.e1 (s) o1 (0) (And.intro (show (0 : Int) ≤ (0 : Int) by first | decide | exact Int.NonNeg.mk _) o2) h5) (And.intro (show (AV.bool true) = ((AV.bool (r66.v s))) by first | (simp only [r66.v, h1, h2, h3, h4, h5, cond_true, cond_false]; done) | (try unfold r66.v; try simp only [h1, cond_true, cond_false]; try simp only [h2, cond_true, cond_false]; try simp only [h3, cond_true, cond_false]; try simp only [h4, cond_true, cond_false]; try simp only [h5, cond_true, cond_false]; try rfl; done) | rfl) trivial)))))))))))))))))) h

end Go.Proofs.Ytgmppoappaolkaa

/- stands. Conditions: none. -/
open Go
namespace Go.Proofs.Ytgmppoappaolkaa
set_option linter.unusedSimpArgs false
set_option linter.unusedVariables false
set_option maxHeartbeats 0
set_option maxRecDepth 100000

/-- A stand. -/
structure SD where
  nm : ByteArray
  x : Int
  y : Int
  nr : Nat
  r : Nat → Int
  nl : Nat
  l : Nat → Int
  hnm : nm.size ≤ 9223372036854775807
  hnr : nr ≤ 9223372036854775807
  hnl : nl ≤ 9223372036854775807
instance : Inhabited SD := ⟨⟨ByteArray.empty, 0, 0, 0, fun _ => 0, 0, fun _ => 0, by decide, by decide, by decide⟩⟩
@[simp] theorem SD.hnm' (s : SD) : (s.nm.size ≤ 9223372036854775807) = True := eq_true s.hnm
@[simp] theorem SD.hnr' (s : SD) : (s.nr ≤ 9223372036854775807) = True := eq_true s.hnr
@[simp] theorem SD.hnl' (s : SD) : (s.nl ≤ 9223372036854775807) = True := eq_true s.hnl
def SD.av (s : SD) : AV := .agg [.str s.nm, .int .i64 s.x, .int .i64 s.y, .sl 1 s.nr (fun i => .int .i64 (s.r i)), .sl 1 s.nl (fun i => .int .i64 (s.l i))]
def sts (n : Nat) (g : Nat → SD) : AV := .sl 5 n (fun i => (g i).av)
@[simp] theorem low_sd (lo : Nat) (s : SD) : Low lo s.av = True := by unfold SD.av; simp
@[simp] theorem low_sts (lo n : Nat) (g : Nat → SD) : Low lo (sts n g) = True := by unfold sts; simp

inductive L19.O where
  | e0
  | e1
noncomputable def L19.T (n : Nat) (g : Nat → SD) (i : Int) : List AV := mkT 41 [(0, AV.sl 5 n fun (i : Nat) => AV.agg [AV.str (g i).nm, AV.int IntKind.i64 (g i).x, AV.int IntKind.i64 (g i).y, AV.sl 1 (g i).nr fun (i_1 : Nat) => AV.int IntKind.i64 ((g i).r i_1), AV.sl 1 (g i).nl fun (i_1 : Nat) => AV.int IntKind.i64 ((g i).l i_1)]), (5, AV.int IntKind.i64 i)]
noncomputable def L19.H (n : Nat) (g : Nat → SD) (i : Int) : AHeap := []
def L19.inv (n : Nat) (g : Nat → SD) (i : Int) : Prop := 0 ≤ i ∧ i ≤ (↑n : Int)
noncomputable def L19.mu (n : Nat) (g : Nat → SD) (i : Int) : Nat := ((↑n : Int) - i).toNat
noncomputable def L19.E : L19.O → Exit
  | .e0 => Exit.ret
  | .e1 => Exit.exit 0
noncomputable def L19.X (n : Nat) (g : Nat → SD) : L19.O → List AV
  | .e0 => mkT 41 [(4, (AV.bool false))]
  | .e1 => mkT 41 []
noncomputable def L19.XH (n : Nat) (g : Nat → SD) : L19.O → AHeap
  | .e0 => ([])
  | .e1 => ([])
noncomputable def L19.N (n : Nat) (g : Nat → SD) : Nat → Int → L19.O
  | 0, _ => .e0
  | k_ + 1, i => (bif decide (i < (↑n : Int)) then (bif decide ((↑(g i.toNat).nr : Int) > 20) then (.e0) else (bif decide ((↑(g i.toNat).nl : Int) > 20) then (.e0) else (bif decide ((↑(g i.toNat).nm.size : Int) > 60) then (.e0) else (L19.N n g k_ (IntKind.i64.wrap (i + 1)))))) else (.e1))
noncomputable def L19.run (n : Nat) (g : Nat → SD) (i : Int) : L19.O := L19.N n g ((((↑n : Int) - i).toNat) + 1) i
def L19.Next (n : Nat) (g : Nat → SD) (k_ : Nat) (z_ : Int) (T_ : List AV) (h_ : AHeap) : Prop := LNextP (fun (z_ : Int) => L19.T n g z_) (fun (z_ : Int) => L19.H n g z_) (fun (z_ : Int) => L19.inv n g z_) (fun (z_ : Int) => L19.mu n g z_) (fun (k_ : Nat) (z_ : Int) => L19.N n g k_ z_) k_ z_ T_ h_
def L19.End (n : Nat) (g : Nat → SD) (k_ : Nat) (z_ : Int) (e_ : Exit) (T_ : List AV) (h_ : AHeap) : Prop := LEndP (fun (z_ : Int) => L19.H n g z_) (fun (k_ : Nat) (z_ : Int) => L19.N n g k_ z_) L19.E (L19.X n g) (L19.XH n g) k_ z_ e_ T_ h_
theorem L19.nx (n : Nat) (g : Nat → SD) {k_ : Nat} {z_ : Int} {h_ : AHeap} (s_ : Int) (h1 : L19.inv n g s_) (h2 : L19.mu n g s_ < L19.mu n g z_) (h3 : L19.N n g k_ s_ = L19.N n g (k_ + 1) z_) (h4 : PopOk (L19.H n g z_) h_ (L19.T n g s_) (L19.H n g s_)) : LNextP (fun (z_ : Int) => L19.T n g z_) (fun (z_ : Int) => L19.H n g z_) (fun (z_ : Int) => L19.inv n g z_) (fun (z_ : Int) => L19.mu n g z_) (fun (k_ : Nat) (z_ : Int) => L19.N n g k_ z_) k_ z_ (L19.T n g s_) h_ := LNextP.mk (Tm := (fun (z_ : Int) => L19.T n g z_)) (Hp := (fun (z_ : Int) => L19.H n g z_)) (inv := (fun (z_ : Int) => L19.inv n g z_)) (mu := (fun (z_ : Int) => L19.mu n g z_)) (l := (fun (k_ : Nat) (z_ : Int) => L19.N n g k_ z_)) s_ h1 h2 h3 h4
theorem L19.en (n : Nat) (g : Nat → SD) {k_ : Nat} {z_ : Int} {h_ : AHeap} (o_ : L19.O) (h3 : L19.N n g (k_ + 1) z_ = o_) (h4 : PopOk (L19.H n g z_) h_ (L19.X n g o_) (L19.XH n g o_)) : LEndP (fun (z_ : Int) => L19.H n g z_) (fun (k_ : Nat) (z_ : Int) => L19.N n g k_ z_) L19.E (L19.X n g) (L19.XH n g) k_ z_ (L19.E o_) (L19.X n g o_) h_ := LEndP.mk (Hp := (fun (z_ : Int) => L19.H n g z_)) (l := (fun (k_ : Nat) (z_ : Int) => L19.N n g k_ z_)) (oE := L19.E) (oT := L19.X n g) (oH := L19.XH n g) o_ h3 h4
theorem L19.spec (n : Nat) (g : Nat → SD) (hn : n ≤ 9223372036854775807) (k_ : Nat) (z_ : Int) (hi_ : L19.inv n g z_) (hm_ : L19.mu n g z_ < k_) : LoopTo Try.prog (loopN Try.f19 0) (L19.T n g z_) (L19.H n g z_) (L19.E (L19.N n g k_ z_)) (L19.X n g (L19.N n g k_ z_)) (L19.XH n g (L19.N n g k_ z_)) := by
  refine LoopTo.fuelP mix (fun (z_ : Int) => L19.T n g z_) (fun (z_ : Int) => L19.H n g z_) (fun (z_ : Int) => L19.inv n g z_) (fun (z_ : Int) => L19.mu n g z_) (fun (k_ : Nat) (z_ : Int) => L19.N n g k_ z_) L19.E (L19.X n g) (L19.XH n g) (others 41 [0, 5]) (others 41 [4]) (others 41 []) ?_ k_ z_ hi_ hm_
  clear hm_ hi_ z_ k_
  intro k_ z_ hinv hmu
  revert hinv hmu; revert z_; intro i hinv hmu
  have hinv : 0 ≤ i ∧ i ≤ (↑n : Int) := hinv
  have hmu : (((↑n : Int) - i).toNat) < k_ + 1 := hmu
  cases h1 : decide (i < (↑n : Int)) with
  | true =>
    have h1p := of_decide_eq_true h1
    have o0 : (0 : Int) ≤ i := by first | assumption | omega | (simp_all; done)
    have o1 : i < (↑n : Int) := by first | assumption | omega | (simp_all; done)
    cases h2 : decide ((↑(g i.toNat).nr : Int) > 20) with
    | true =>
      have h2p := of_decide_eq_true h2
      exact ⟨[.b true, .b true, .b true, .b true, .b true, .b true, .b true, .b true, .b true, .b true, .b true, .b true, .b true, .b true, .b true, .b true, .b true, .b true], kmp (by kernel_rfl) (And.intro h1 (And.intro (And.intro o0 o1) (And.intro h2 (And.intro h2 (And.intro h2 (And.intro h2 (And.intro h2 (And.intro h2 (And.intro h2 (And.intro h2 (And.intro (rfl : true = true) (And.intro (rfl : true = true) (And.intro (rfl : true = true) (And.intro (rfl : true = true) (And.intro (rfl : true = true) (And.intro (rfl : true = true) (And.intro (rfl : true = true) (And.intro (rfl : true = true) (And.intro (rfl : true = true) (L19.en n g (k_ := k_) (z_ := i) (.e0 : L19.O) (by first | (simp only [L19.N, h1, h2, cond_true, cond_false]; done) | (try unfold L19.N; try simp only [h1, cond_true, cond_false]; try simp only [h2, cond_true, cond_false]; try rfl; done)) PopOk.same))))))))))))))))))))⟩
    | false =>
      have h2p := of_decide_eq_false h2
      cases h3 : decide ((↑(g i.toNat).nl : Int) > 20) with
      | true =>
        have h3p := of_decide_eq_true h3
        exact ⟨[.b true, .b false, .b false, .b false, .b false, .b false, .b false, .b false, .b false, .b true, .b true, .b true, .b true, .b true, .b true, .b true, .b true, .b true], kmp (by kernel_rfl) (And.intro h1 (And.intro (And.intro o0 o1) (And.intro h2 (And.intro h2 (And.intro h2 (And.intro (And.intro o0 o1) (And.intro h2 (And.intro h2 (And.intro h2 (And.intro h2 (And.intro h2 (And.intro h3 (And.intro h3 (And.intro h3 (And.intro h3 (And.intro h3 (And.intro h3 (And.intro h3 (And.intro h3 (And.intro (rfl : true = true) (L19.en n g (k_ := k_) (z_ := i) (.e0 : L19.O) (by first | (simp only [L19.N, h1, h2, h3, cond_true, cond_false]; done) | (try unfold L19.N; try simp only [h1, cond_true, cond_false]; try simp only [h2, cond_true, cond_false]; try simp only [h3, cond_true, cond_false]; try rfl; done)) PopOk.same)))))))))))))))))))))⟩
      | false =>
        have h3p := of_decide_eq_false h3
        cases h4 : decide ((↑(g i.toNat).nm.size : Int) > 60) with
        | true =>
          have h4p := of_decide_eq_true h4
          exact ⟨[.b true, .b false, .b false, .b false, .b false, .b false, .b false, .b false, .b false, .b false, .b false, .b false, .b false, .b false, .b false, .b false, .b false, .b true], kmp (by kernel_rfl) (And.intro h1 (And.intro (And.intro o0 o1) (And.intro h2 (And.intro h2 (And.intro h2 (And.intro (And.intro o0 o1) (And.intro h2 (And.intro h2 (And.intro h2 (And.intro h2 (And.intro h2 (And.intro h3 (And.intro h3 (And.intro h3 (And.intro (And.intro o0 o1) (And.intro h3 (And.intro h3 (And.intro h3 (And.intro h3 (And.intro h3 (And.intro h4 (L19.en n g (k_ := k_) (z_ := i) (.e0 : L19.O) (by first | (simp only [L19.N, h1, h2, h3, h4, cond_true, cond_false]; done) | (try unfold L19.N; try simp only [h1, cond_true, cond_false]; try simp only [h2, cond_true, cond_false]; try simp only [h3, cond_true, cond_false]; try simp only [h4, cond_true, cond_false]; try rfl; done)) PopOk.same))))))))))))))))))))))⟩
        | false =>
          have h4p := of_decide_eq_false h4
          try have := IntWalk.i64_in (i + 1) (by omega)
          have o2 : (0 : Int) ≤ IntKind.i64.wrap (i + (1 : Int)) := by first | assumption | omega | (simp_all; done)
          have o3 : IntKind.i64.wrap (i + (1 : Int)) ≤ (↑n : Int) := by first | assumption | omega | (simp_all; done)
          have o4 : ((↑n : Int) - IntKind.i64.wrap (i + (1 : Int))).toNat < ((↑n : Int) - i).toNat := by first | assumption | omega | (simp_all; done)
          exact ⟨[.b true, .b false, .b false, .b false, .b false, .b false, .b false, .b false, .b false, .b false, .b false, .b false, .b false, .b false, .b false, .b false, .b false, .b false], kmp (by kernel_rfl) (And.intro h1 (And.intro (And.intro o0 o1) (And.intro h2 (And.intro h2 (And.intro h2 (And.intro (And.intro o0 o1) (And.intro h2 (And.intro h2 (And.intro h2 (And.intro h2 (And.intro h2 (And.intro h3 (And.intro h3 (And.intro h3 (And.intro (And.intro o0 o1) (And.intro h3 (And.intro h3 (And.intro h3 (And.intro h3 (And.intro h3 (And.intro h4 (L19.nx n g (k_ := k_) (z_ := i) (IntKind.i64.wrap (i + 1)) (And.intro o2 o3) o4 (by first | (simp only [L19.N, h1, h2, h3, h4, cond_true, cond_false]; done) | (try unfold L19.N; try simp only [h1, cond_true, cond_false]; try simp only [h2, cond_true, cond_false]; try simp only [h3, cond_true, cond_false]; try simp only [h4, cond_true, cond_false]; try rfl; done)) PopOk.same))))))))))))))))))))))⟩
  | false =>
    have h1p := of_decide_eq_false h1
    exact ⟨[.b false], kmp (by kernel_rfl) (And.intro h1 (L19.en n g (k_ := k_) (z_ := i) (.e1 : L19.O) (by first | (simp only [L19.N, h1, cond_true, cond_false]; done) | (try unfold L19.N; try simp only [h1, cond_true, cond_false]; try rfl; done)) PopOk.same))⟩
theorem L19.e0 (n : Nat) (g : Nat → SD) (hn : n ≤ 9223372036854775807) (i : Int) (hinv : L19.inv n g i) (hN : L19.run n g i = (.e0 : L19.O)) : LoopTo Try.prog (loopN Try.f19 0) (L19.T n g i) (L19.H n g i) (Exit.ret) (L19.X n g (.e0 : L19.O)) (L19.XH n g (.e0 : L19.O)) := by
  have h_ := L19.spec n g hn ((((↑n : Int) - i).toNat) + 1) i hinv (Nat.lt_succ_self _)
  unfold L19.run at hN
  simp only [hN] at h_
  exact h_
theorem L19.e1 (n : Nat) (g : Nat → SD) (hn : n ≤ 9223372036854775807) (i : Int) (hinv : L19.inv n g i) (hN : L19.run n g i = (.e1 : L19.O)) : LoopTo Try.prog (loopN Try.f19 0) (L19.T n g i) (L19.H n g i) (Exit.exit 0) (L19.X n g (.e1 : L19.O)) (L19.XH n g (.e1 : L19.O)) := by
  have h_ := L19.spec n g hn ((((↑n : Int) - i).toNat) + 1) i hinv (Nat.lt_succ_self _)
  unfold L19.run at hN
  simp only [hN] at h_
  exact h_

noncomputable def r19.v (n : Nat) (g : Nat → SD) (m : Int) : Bool := (bif decide ((↑n : Int) > m) then false else (match L19.run n g 0 with | .e0 => false | .e1 => true ))
theorem r19 (n : Nat) (g : Nat → SD) (m : Int) (hn : n ≤ 9223372036854775807) (h : AHeap) : Ret Try.prog 19 ([sts n g, AV.int IntKind.i64 m]) h (AV.bool (r19.v n g m)) h := by
  cases h1 : decide ((↑n : Int) > m) with
  | true =>
    have h1p := of_decide_eq_true h1
    exact Ret.of_run1 mix [(AV.bool (r19.v n g m))] Try.func19 rfl [.b true] (by simp) (by simp) (kmp (by kernel_rfl) (And.intro h1 (And.intro (show (AV.bool false) = ((AV.bool (r19.v n g m))) by first | (simp only [r19.v, h1, cond_true, cond_false]; done) | (try unfold r19.v; try simp only [h1, cond_true, cond_false]; try rfl; done) | rfl) trivial))) h
  | false =>
    have h1p := of_decide_eq_false h1
    have o0 : n ≤ (9223372036854775807 : Nat) := by first | assumption | omega | (simp_all; done)
    have o1 : (0 : Int) ≤ (↑n : Int) := by first | assumption | omega | (simp_all; done)
    cases h2 : L19.run n g 0 with
    | e0 =>
      exact Ret.of_run1 mix [(AV.bool (r19.v n g m))] Try.func19 rfl [.b false, .loop (others 41 [0, 5]) (Exit.ret) (L19.X n g L19.O.e0) (L19.XH n g L19.O.e0)] (by simp) (by simp) (kmp (by kernel_rfl) (And.intro h1 (And.intro (L19.e0 (n) (g) o0 (0) (And.intro (show (0 : Int) ≤ (0 : Int) by first | decide | exact Int.NonNeg.mk _) o1) h2) (And.intro (show (AV.bool false) = ((AV.bool (r19.v n g m))) by first | (simp only [r19.v, h1, h2, cond_true, cond_false]; done) | (try unfold r19.v; try simp only [h1, cond_true, cond_false]; try simp only [h2, cond_true, cond_false]; try rfl; done) | rfl) trivial)))) h
    | e1 =>
      exact Ret.of_run1 mix [(AV.bool (r19.v n g m))] Try.func19 rfl [.b false, .loop (others 41 [0, 5]) (Exit.exit 0) (L19.X n g L19.O.e1) (L19.XH n g L19.O.e1)] (by simp) (by simp) (kmp (by kernel_rfl) (And.intro h1 (And.intro (L19.e1 (n) (g) o0 (0) (And.intro (show (0 : Int) ≤ (0 : Int) by first | decide | exact Int.NonNeg.mk _) o1) h2) (And.intro (show (AV.bool true) = ((AV.bool (r19.v n g m))) by first | (simp only [r19.v, h1, h2, cond_true, cond_false]; done) | (try unfold r19.v; try simp only [h1, cond_true, cond_false]; try simp only [h2, cond_true, cond_false]; try rfl; done) | rfl) trivial)))) h

noncomputable def r62.v (s : SD) : Bool := bnot (r63.v s.nm)
theorem r62 (s : SD) (h : AHeap) : Ret Try.prog 62 ([s.av]) h (AV.bool (r62.v s)) h := by
  have o0 : s.nm.size ≤ (9223372036854775807 : Nat) := by first | assumption | omega | (simp_all; done)
  exact Ret.of_run1 mix [(AV.bool (r62.v s))] Try.func62 rfl [.ret (AV.bool (r63.v s.nm)) ([AObj.var (AV.agg [AV.str s.nm, AV.int IntKind.i64 s.x, AV.int IntKind.i64 s.y, AV.sl 1 s.nr fun (i : Nat) => AV.int IntKind.i64 (s.r i), AV.sl 1 s.nl fun (i : Nat) => AV.int IntKind.i64 (s.l i)])])] (by simp) (by simp) (kmp (by kernel_rfl) (And.intro (r63 (s.nm) o0 ([AObj.var (AV.agg [AV.str s.nm, AV.int IntKind.i64 s.x, AV.int IntKind.i64 s.y, AV.sl 1 s.nr fun (i : Nat) => AV.int IntKind.i64 (s.r i), AV.sl 1 s.nl fun (i : Nat) => AV.int IntKind.i64 (s.l i)])])) (And.intro (show (AV.bool (bnot (r63.v s.nm))) = ((AV.bool (r62.v s))) by first | (simp only [r62.v, cond_true, cond_false]; done) | (try unfold r62.v; try rfl; done) | rfl) trivial))) h

noncomputable def r64.v (s : SD) : Bool := (bif decide ((↑s.nr : Int) < 1) then true else (bif decide ((↑s.nr : Int) > 16) then true else (↑s.nl : Int) != (↑s.nr : Int)))
theorem r64 (s : SD) (h : AHeap) : Ret Try.prog 64 ([s.av]) h (AV.bool (r64.v s)) h := by
  cases h1 : decide ((↑s.nr : Int) < 1) with
  | true =>
    have h1p := of_decide_eq_true h1
    exact Ret.of_run1 mix [(AV.bool (r64.v s))] Try.func64 rfl [.b true, .b true, .b true, .b true, .b true, .b true, .b true, .b true, .b true, .b true, .b true, .b true, .b true] (by simp) (by simp) (kmp (by kernel_rfl) (And.intro h1 (And.intro h1 (And.intro h1 (And.intro h1 (And.intro h1 (And.intro (rfl : true = true) (And.intro (rfl : true = true) (And.intro (rfl : true = true) (And.intro (rfl : true = true) (And.intro (rfl : true = true) (And.intro (rfl : true = true) (And.intro (rfl : true = true) (And.intro (rfl : true = true) (And.intro (show (AV.bool true) = ((AV.bool (r64.v s))) by first | (simp only [r64.v, h1, cond_true, cond_false]; done) | (try unfold r64.v; try simp only [h1, cond_true, cond_false]; try rfl; done) | rfl) trivial))))))))))))))) h
  | false =>
    have h1p := of_decide_eq_false h1
    cases h2 : decide ((↑s.nr : Int) > 16) with
    | true =>
      have h2p := of_decide_eq_true h2
      exact Ret.of_run1 mix [(AV.bool (r64.v s))] Try.func64 rfl [.b false, .b false, .b false, .b false, .b false, .b true, .b true, .b true, .b true, .b true, .b true, .b true, .b true] (by simp) (by simp) (kmp (by kernel_rfl) (And.intro h1 (And.intro h1 (And.intro h1 (And.intro h1 (And.intro h1 (And.intro h2 (And.intro h2 (And.intro h2 (And.intro h2 (And.intro h2 (And.intro h2 (And.intro h2 (And.intro h2 (And.intro (show (AV.bool true) = ((AV.bool (r64.v s))) by first | (simp only [r64.v, h1, h2, cond_true, cond_false]; done) | (try unfold r64.v; try simp only [h1, cond_true, cond_false]; try simp only [h2, cond_true, cond_false]; try rfl; done) | rfl) trivial))))))))))))))) h
    | false =>
      have h2p := of_decide_eq_false h2
      exact Ret.of_run1 mix [(AV.bool (r64.v s))] Try.func64 rfl [.b false, .b false, .b false, .b false, .b false, .b false, .b false, .b false, .b false, .b false, .b false, .b false, .b false] (by simp) (by simp) (kmp (by kernel_rfl) (And.intro h1 (And.intro h1 (And.intro h1 (And.intro h1 (And.intro h1 (And.intro h2 (And.intro h2 (And.intro h2 (And.intro h2 (And.intro h2 (And.intro h2 (And.intro h2 (And.intro h2 (And.intro (show (AV.bool ((↑s.nl : Int) != (↑s.nr : Int))) = ((AV.bool (r64.v s))) by first | (simp only [r64.v, h1, h2, cond_true, cond_false]; done) | (try unfold r64.v; try simp only [h1, cond_true, cond_false]; try simp only [h2, cond_true, cond_false]; try rfl; done) | rfl) trivial))))))))))))))) h

inductive L65.O where
  | e0
  | e1
noncomputable def L65.T (s : SD) (i : Int) : List AV := mkT 74 [(1, AV.ptr 0 1 5 0 0), (2, AV.bool false), (18, AV.sl 1 s.nr fun (i : Nat) => AV.int IntKind.i64 (s.r i)), (19, AV.int IntKind.i64 (↑s.nr : Int)), (20, AV.int IntKind.i64 i)]
noncomputable def L65.H (s : SD) (i : Int) : AHeap := [AObj.var s.av]
def L65.inv (s : SD) (i : Int) : Prop := 0 ≤ i ∧ i ≤ (↑s.nr : Int)
noncomputable def L65.mu (s : SD) (i : Int) : Nat := ((↑s.nr : Int) - i).toNat
noncomputable def L65.E : L65.O → Exit
  | .e0 => Exit.ret
  | .e1 => Exit.exit 0
noncomputable def L65.X (s : SD) : L65.O → List AV
  | .e0 => mkT 74 [(2, (AV.bool true))]
  | .e1 => mkT 74 []
noncomputable def L65.XH (s : SD) : L65.O → AHeap
  | .e0 => ([AObj.var (AV.agg [AV.str s.nm, AV.int IntKind.i64 s.x, AV.int IntKind.i64 s.y, AV.sl 1 s.nr fun (i : Nat) => AV.int IntKind.i64 (s.r i), AV.sl 1 s.nl fun (i : Nat) => AV.int IntKind.i64 (s.l i)])])
  | .e1 => ([AObj.var (AV.agg [AV.str s.nm, AV.int IntKind.i64 s.x, AV.int IntKind.i64 s.y, AV.sl 1 s.nr fun (i : Nat) => AV.int IntKind.i64 (s.r i), AV.sl 1 s.nl fun (i : Nat) => AV.int IntKind.i64 (s.l i)])])
noncomputable def L65.N (s : SD) : Nat → Int → L65.O
  | 0, _ => .e0
  | k_ + 1, i => (bif decide (i < (↑s.nr : Int)) then (bif decide (s.r i.toNat < 1) then (.e0) else (bif decide (s.r i.toNat > 500000) then (.e0) else (bif decide (s.l i.toNat < 0) then (.e0) else (bif decide (s.l i.toNat > 1000000000000000) then (.e0) else (bif decide (i > 0) then (bif decide (s.r (IntKind.i64.wrap (i - 1)).toNat ≥ s.r i.toNat) then (.e0) else (bif decide (s.l i.toNat > s.l (IntKind.i64.wrap (i - 1)).toNat) then (.e0) else (L65.N s k_ (IntKind.i64.wrap (i + 1))))) else (L65.N s k_ (IntKind.i64.wrap (i + 1)))))))) else (.e1))
noncomputable def L65.run (s : SD) (i : Int) : L65.O := L65.N s ((((↑s.nr : Int) - i).toNat) + 1) i
def L65.Next (s : SD) (k_ : Nat) (z_ : Int) (T_ : List AV) (h_ : AHeap) : Prop := LNextP (fun (z_ : Int) => L65.T s z_) (fun (z_ : Int) => L65.H s z_) (fun (z_ : Int) => L65.inv s z_) (fun (z_ : Int) => L65.mu s z_) (fun (k_ : Nat) (z_ : Int) => L65.N s k_ z_) k_ z_ T_ h_
def L65.End (s : SD) (k_ : Nat) (z_ : Int) (e_ : Exit) (T_ : List AV) (h_ : AHeap) : Prop := LEndP (fun (z_ : Int) => L65.H s z_) (fun (k_ : Nat) (z_ : Int) => L65.N s k_ z_) L65.E (L65.X s) (L65.XH s) k_ z_ e_ T_ h_
theorem L65.nx (s : SD) {k_ : Nat} {z_ : Int} {h_ : AHeap} (s_ : Int) (h1 : L65.inv s s_) (h2 : L65.mu s s_ < L65.mu s z_) (h3 : L65.N s k_ s_ = L65.N s (k_ + 1) z_) (h4 : PopOk (L65.H s z_) h_ (L65.T s s_) (L65.H s s_)) : LNextP (fun (z_ : Int) => L65.T s z_) (fun (z_ : Int) => L65.H s z_) (fun (z_ : Int) => L65.inv s z_) (fun (z_ : Int) => L65.mu s z_) (fun (k_ : Nat) (z_ : Int) => L65.N s k_ z_) k_ z_ (L65.T s s_) h_ := LNextP.mk (Tm := (fun (z_ : Int) => L65.T s z_)) (Hp := (fun (z_ : Int) => L65.H s z_)) (inv := (fun (z_ : Int) => L65.inv s z_)) (mu := (fun (z_ : Int) => L65.mu s z_)) (l := (fun (k_ : Nat) (z_ : Int) => L65.N s k_ z_)) s_ h1 h2 h3 h4
theorem L65.en (s : SD) {k_ : Nat} {z_ : Int} {h_ : AHeap} (o_ : L65.O) (h3 : L65.N s (k_ + 1) z_ = o_) (h4 : PopOk (L65.H s z_) h_ (L65.X s o_) (L65.XH s o_)) : LEndP (fun (z_ : Int) => L65.H s z_) (fun (k_ : Nat) (z_ : Int) => L65.N s k_ z_) L65.E (L65.X s) (L65.XH s) k_ z_ (L65.E o_) (L65.X s o_) h_ := LEndP.mk (Hp := (fun (z_ : Int) => L65.H s z_)) (l := (fun (k_ : Nat) (z_ : Int) => L65.N s k_ z_)) (oE := L65.E) (oT := L65.X s) (oH := L65.XH s) o_ h3 h4
theorem L65.spec (s : SD) (hl : s.nl = s.nr) (hr : s.nr ≤ 9223372036854775807) (k_ : Nat) (z_ : Int) (hi_ : L65.inv s z_) (hm_ : L65.mu s z_ < k_) : LoopTo Try.prog (loopN Try.f65 0) (L65.T s z_) (L65.H s z_) (L65.E (L65.N s k_ z_)) (L65.X s (L65.N s k_ z_)) (L65.XH s (L65.N s k_ z_)) := by
  refine LoopTo.fuelP mix (fun (z_ : Int) => L65.T s z_) (fun (z_ : Int) => L65.H s z_) (fun (z_ : Int) => L65.inv s z_) (fun (z_ : Int) => L65.mu s z_) (fun (k_ : Nat) (z_ : Int) => L65.N s k_ z_) L65.E (L65.X s) (L65.XH s) (others 74 [1, 2, 18, 19, 20]) (others 74 [2]) (others 74 []) ?_ k_ z_ hi_ hm_
  clear hm_ hi_ z_ k_
  intro k_ z_ hinv hmu
  revert hinv hmu; revert z_; intro i hinv hmu
  have hinv : 0 ≤ i ∧ i ≤ (↑s.nr : Int) := hinv
  have hmu : (((↑s.nr : Int) - i).toNat) < k_ + 1 := hmu
  cases h1 : decide (i < (↑s.nr : Int)) with
  | true =>
    have h1p := of_decide_eq_true h1
    have o0 : (0 : Int) ≤ i := by first | assumption | omega | (simp_all; done)
    have o1 : i < (↑s.nr : Int) := by first | assumption | omega | (simp_all; done)
    cases h2 : decide (s.r i.toNat < 1) with
    | true =>
      have h2p := of_decide_eq_true h2
      exact ⟨[.b true, .b true, .b true, .b true, .b true, .b true, .b true, .b true, .b true, .b true, .b true, .b true, .b true, .b true, .b true, .b true, .b true, .b true, .b true], kmp (by kernel_rfl) (And.intro h1 (And.intro (And.intro o0 o1) (And.intro h2 (And.intro h2 (And.intro h2 (And.intro (rfl : true = true) (And.intro (rfl : true = true) (And.intro (rfl : true = true) (And.intro (rfl : true = true) (And.intro (rfl : true = true) (And.intro (rfl : true = true) (And.intro (rfl : true = true) (And.intro (rfl : true = true) (And.intro (rfl : true = true) (And.intro (rfl : true = true) (And.intro (rfl : true = true) (And.intro (rfl : true = true) (And.intro (rfl : true = true) (And.intro (rfl : true = true) (And.intro (rfl : true = true) (L65.en s (k_ := k_) (z_ := i) (.e0 : L65.O) (by first | (simp only [L65.N, h1, h2, cond_true, cond_false]; done) | (try unfold L65.N; try simp only [h1, cond_true, cond_false]; try simp only [h2, cond_true, cond_false]; try rfl; done)) PopOk.same)))))))))))))))))))))⟩
    | false =>
      have h2p := of_decide_eq_false h2
      cases h3 : decide (s.r i.toNat > 500000) with
      | true =>
        have h3p := of_decide_eq_true h3
        exact ⟨[.b true, .b false, .b false, .b false, .b true, .b true, .b true, .b true, .b true, .b true, .b true, .b true, .b true, .b true, .b true, .b true, .b true, .b true, .b true], kmp (by kernel_rfl) (And.intro h1 (And.intro (And.intro o0 o1) (And.intro h2 (And.intro h2 (And.intro h2 (And.intro h3 (And.intro h3 (And.intro h3 (And.intro h3 (And.intro h3 (And.intro h3 (And.intro h3 (And.intro (rfl : true = true) (And.intro (rfl : true = true) (And.intro (rfl : true = true) (And.intro (rfl : true = true) (And.intro (rfl : true = true) (And.intro (rfl : true = true) (And.intro (rfl : true = true) (And.intro (rfl : true = true) (L65.en s (k_ := k_) (z_ := i) (.e0 : L65.O) (by first | (simp only [L65.N, h1, h2, h3, cond_true, cond_false]; done) | (try unfold L65.N; try simp only [h1, cond_true, cond_false]; try simp only [h2, cond_true, cond_false]; try simp only [h3, cond_true, cond_false]; try rfl; done)) PopOk.same)))))))))))))))))))))⟩
      | false =>
        have h3p := of_decide_eq_false h3
        have o2 : i < (↑s.nl : Int) := by first | assumption | omega | (simp_all; done)
        cases h4 : decide (s.l i.toNat < 0) with
        | true =>
          have h4p := of_decide_eq_true h4
          exact ⟨[.b true, .b false, .b false, .b false, .b false, .b false, .b false, .b false, .b false, .b false, .b false, .b true, .b true, .b true, .b true, .b true, .b true, .b true, .b true], kmp (by kernel_rfl) (And.intro h1 (And.intro (And.intro o0 o1) (And.intro h2 (And.intro h2 (And.intro h2 (And.intro h3 (And.intro h3 (And.intro h3 (And.intro h3 (And.intro (And.intro o0 o2) (And.intro h3 (And.intro h3 (And.intro h3 (And.intro h4 (And.intro h4 (And.intro h4 (And.intro h4 (And.intro h4 (And.intro h4 (And.intro h4 (And.intro (rfl : true = true) (L65.en s (k_ := k_) (z_ := i) (.e0 : L65.O) (by first | (simp only [L65.N, h1, h2, h3, h4, cond_true, cond_false]; done) | (try unfold L65.N; try simp only [h1, cond_true, cond_false]; try simp only [h2, cond_true, cond_false]; try simp only [h3, cond_true, cond_false]; try simp only [h4, cond_true, cond_false]; try rfl; done)) PopOk.same))))))))))))))))))))))⟩
        | false =>
          have h4p := of_decide_eq_false h4
          cases h5 : decide (s.l i.toNat > 1000000000000000) with
          | true =>
            have h5p := of_decide_eq_true h5
            exact ⟨[.b true, .b false, .b false, .b false, .b false, .b false, .b false, .b false, .b false, .b false, .b false, .b false, .b false, .b false, .b false, .b false, .b false, .b false, .b true], kmp (by kernel_rfl) (And.intro h1 (And.intro (And.intro o0 o1) (And.intro h2 (And.intro h2 (And.intro h2 (And.intro h3 (And.intro h3 (And.intro h3 (And.intro h3 (And.intro (And.intro o0 o2) (And.intro h3 (And.intro h3 (And.intro h3 (And.intro h4 (And.intro h4 (And.intro h4 (And.intro h4 (And.intro (And.intro o0 o2) (And.intro h4 (And.intro h4 (And.intro h4 (And.intro h5 (L65.en s (k_ := k_) (z_ := i) (.e0 : L65.O) (by first | (simp only [L65.N, h1, h2, h3, h4, h5, cond_true, cond_false]; done) | (try unfold L65.N; try simp only [h1, cond_true, cond_false]; try simp only [h2, cond_true, cond_false]; try simp only [h3, cond_true, cond_false]; try simp only [h4, cond_true, cond_false]; try simp only [h5, cond_true, cond_false]; try rfl; done)) PopOk.same)))))))))))))))))))))))⟩
          | false =>
            have h5p := of_decide_eq_false h5
            cases h6 : decide (i > 0) with
            | true =>
              have h6p := of_decide_eq_true h6
              try have := IntWalk.i64_in (i - 1) (by omega)
              have o3 : (0 : Int) ≤ IntKind.i64.wrap (i - (1 : Int)) := by first | assumption | omega | (simp_all; done)
              have o4 : IntKind.i64.wrap (i - (1 : Int)) < (↑s.nr : Int) := by first | assumption | omega | (simp_all; done)
              cases h7 : decide (s.r (IntKind.i64.wrap (i - 1)).toNat ≥ s.r i.toNat) with
              | true =>
                have h7p := of_decide_eq_true h7
                exact ⟨[.b true, .b false, .b false, .b false, .b false, .b false, .b false, .b false, .b false, .b false, .b false, .b false, .b false, .b false, .b false, .b false, .b false, .b false, .b false, .b true, .b true, .b true, .b true, .b true, .b true, .b true, .b true, .b true, .b true, .b true, .b true, .b true, .b true, .b true, .b true, .b true, .b true, .b true, .b true, .b true, .b true, .b true, .b true, .b true], kmp (by kernel_rfl) (And.intro h1 (And.intro (And.intro o0 o1) (And.intro h2 (And.intro h2 (And.intro h2 (And.intro h3 (And.intro h3 (And.intro h3 (And.intro h3 (And.intro (And.intro o0 o2) (And.intro h3 (And.intro h3 (And.intro h3 (And.intro h4 (And.intro h4 (And.intro h4 (And.intro h4 (And.intro (And.intro o0 o2) (And.intro h4 (And.intro h4 (And.intro h4 (And.intro h5 (And.intro h6 (And.intro h6 (And.intro h6 (And.intro h6 (And.intro h6 (And.intro (And.intro o3 o4) (And.intro h6 (And.intro h6 (And.intro h6 (And.intro h6 (And.intro h7 (And.intro h7 (And.intro h7 (And.intro h7 (And.intro h7 (And.intro h7 (And.intro h7 (And.intro h7 (And.intro h7 (And.intro h7 (And.intro h7 (And.intro h7 (And.intro h6 (And.intro h7 (And.intro h6 (And.intro (rfl : true = true) (L65.en s (k_ := k_) (z_ := i) (.e0 : L65.O) (by first | (simp only [L65.N, h1, h2, h3, h4, h5, h6, h7, cond_true, cond_false]; done) | (try unfold L65.N; try simp only [h1, cond_true, cond_false]; try simp only [h2, cond_true, cond_false]; try simp only [h3, cond_true, cond_false]; try simp only [h4, cond_true, cond_false]; try simp only [h5, cond_true, cond_false]; try simp only [h6, cond_true, cond_false]; try simp only [h7, cond_true, cond_false]; try rfl; done)) PopOk.same)))))))))))))))))))))))))))))))))))))))))))))))))⟩
              | false =>
                have h7p := of_decide_eq_false h7
                try have := IntWalk.i64_in (i - 1) (by omega)
                have o5 : IntKind.i64.wrap (i - (1 : Int)) < (↑s.nl : Int) := by first | assumption | omega | (simp_all; done)
                cases h8 : decide (s.l i.toNat > s.l (IntKind.i64.wrap (i - 1)).toNat) with
                | true =>
                  have h8p := of_decide_eq_true h8
                  exact ⟨[.b true, .b false, .b false, .b false, .b false, .b false, .b false, .b false, .b false, .b false, .b false, .b false, .b false, .b false, .b false, .b false, .b false, .b false, .b false, .b true, .b true, .b true, .b true, .b true, .b true, .b true, .b true, .b true, .b false, .b false, .b false, .b false, .b false, .b false, .b false, .b false, .b false, .b false, .b false, .b false, .b true, .b false, .b true, .b true], kmp (by kernel_rfl) (And.intro h1 (And.intro (And.intro o0 o1) (And.intro h2 (And.intro h2 (And.intro h2 (And.intro h3 (And.intro h3 (And.intro h3 (And.intro h3 (And.intro (And.intro o0 o2) (And.intro h3 (And.intro h3 (And.intro h3 (And.intro h4 (And.intro h4 (And.intro h4 (And.intro h4 (And.intro (And.intro o0 o2) (And.intro h4 (And.intro h4 (And.intro h4 (And.intro h5 (And.intro h6 (And.intro h6 (And.intro h6 (And.intro h6 (And.intro h6 (And.intro (And.intro o3 o4) (And.intro h6 (And.intro h6 (And.intro h6 (And.intro h6 (And.intro h7 (And.intro h7 (And.intro h7 (And.intro h7 (And.intro (And.intro o0 o2) (And.intro h7 (And.intro h7 (And.intro h7 (And.intro h7 (And.intro h7 (And.intro h7 (And.intro (And.intro o3 o5) (And.intro h7 (And.intro h7 (And.intro h6 (And.intro h7 (And.intro h6 (And.intro h8 (L65.en s (k_ := k_) (z_ := i) (.e0 : L65.O) (by first | (simp only [L65.N, h1, h2, h3, h4, h5, h6, h7, h8, cond_true, cond_false]; done) | (try unfold L65.N; try simp only [h1, cond_true, cond_false]; try simp only [h2, cond_true, cond_false]; try simp only [h3, cond_true, cond_false]; try simp only [h4, cond_true, cond_false]; try simp only [h5, cond_true, cond_false]; try simp only [h6, cond_true, cond_false]; try simp only [h7, cond_true, cond_false]; try simp only [h8, cond_true, cond_false]; try rfl; done)) PopOk.same)))))))))))))))))))))))))))))))))))))))))))))))))))⟩
                | false =>
                  have h8p := of_decide_eq_false h8
                  try have := IntWalk.i64_in (i + 1) (by omega)
                  have o6 : (0 : Int) ≤ IntKind.i64.wrap (i + (1 : Int)) := by first | assumption | omega | (simp_all; done)
                  have o7 : IntKind.i64.wrap (i + (1 : Int)) ≤ (↑s.nr : Int) := by first | assumption | omega | (simp_all; done)
                  have o8 : ((↑s.nr : Int) - IntKind.i64.wrap (i + (1 : Int))).toNat < ((↑s.nr : Int) - i).toNat := by first | assumption | omega | (simp_all; done)
                  exact ⟨[.b true, .b false, .b false, .b false, .b false, .b false, .b false, .b false, .b false, .b false, .b false, .b false, .b false, .b false, .b false, .b false, .b false, .b false, .b false, .b true, .b true, .b true, .b true, .b true, .b true, .b true, .b true, .b true, .b false, .b false, .b false, .b false, .b false, .b false, .b false, .b false, .b false, .b false, .b false, .b false, .b true, .b false, .b true, .b false], kmp (by kernel_rfl) (And.intro h1 (And.intro (And.intro o0 o1) (And.intro h2 (And.intro h2 (And.intro h2 (And.intro h3 (And.intro h3 (And.intro h3 (And.intro h3 (And.intro (And.intro o0 o2) (And.intro h3 (And.intro h3 (And.intro h3 (And.intro h4 (And.intro h4 (And.intro h4 (And.intro h4 (And.intro (And.intro o0 o2) (And.intro h4 (And.intro h4 (And.intro h4 (And.intro h5 (And.intro h6 (And.intro h6 (And.intro h6 (And.intro h6 (And.intro h6 (And.intro (And.intro o3 o4) (And.intro h6 (And.intro h6 (And.intro h6 (And.intro h6 (And.intro h7 (And.intro h7 (And.intro h7 (And.intro h7 (And.intro (And.intro o0 o2) (And.intro h7 (And.intro h7 (And.intro h7 (And.intro h7 (And.intro h7 (And.intro h7 (And.intro (And.intro o3 o5) (And.intro h7 (And.intro h7 (And.intro h6 (And.intro h7 (And.intro h6 (And.intro h8 (L65.nx s (k_ := k_) (z_ := i) (IntKind.i64.wrap (i + 1)) (And.intro o6 o7) o8 (by first | (simp only [L65.N, h1, h2, h3, h4, h5, h6, h7, h8, cond_true, cond_false]; done) | (try unfold L65.N; try simp only [h1, cond_true, cond_false]; try simp only [h2, cond_true, cond_false]; try simp only [h3, cond_true, cond_false]; try simp only [h4, cond_true, cond_false]; try simp only [h5, cond_true, cond_false]; try simp only [h6, cond_true, cond_false]; try simp only [h7, cond_true, cond_false]; try simp only [h8, cond_true, cond_false]; try rfl; done)) PopOk.same)))))))))))))))))))))))))))))))))))))))))))))))))))⟩
            | false =>
              have h6p := of_decide_eq_false h6
              try have := IntWalk.i64_in (i + 1) (by omega)
              have o6 : (0 : Int) ≤ IntKind.i64.wrap (i + (1 : Int)) := by first | assumption | omega | (simp_all; done)
              have o7 : IntKind.i64.wrap (i + (1 : Int)) ≤ (↑s.nr : Int) := by first | assumption | omega | (simp_all; done)
              have o8 : ((↑s.nr : Int) - IntKind.i64.wrap (i + (1 : Int))).toNat < ((↑s.nr : Int) - i).toNat := by first | assumption | omega | (simp_all; done)
              exact ⟨[.b true, .b false, .b false, .b false, .b false, .b false, .b false, .b false, .b false, .b false, .b false, .b false, .b false, .b false, .b false, .b false, .b false, .b false, .b false, .b false, .b false, .b false, .b false, .b false, .b false, .b false, .b false, .b false, .b false, .b false, .b false], kmp (by kernel_rfl) (And.intro h1 (And.intro (And.intro o0 o1) (And.intro h2 (And.intro h2 (And.intro h2 (And.intro h3 (And.intro h3 (And.intro h3 (And.intro h3 (And.intro (And.intro o0 o2) (And.intro h3 (And.intro h3 (And.intro h3 (And.intro h4 (And.intro h4 (And.intro h4 (And.intro h4 (And.intro (And.intro o0 o2) (And.intro h4 (And.intro h4 (And.intro h4 (And.intro h5 (And.intro h6 (And.intro h6 (And.intro h6 (And.intro h6 (And.intro h6 (And.intro h6 (And.intro h6 (And.intro h6 (And.intro h6 (And.intro h6 (And.intro h6 (And.intro (rfl : false = false) (L65.nx s (k_ := k_) (z_ := i) (IntKind.i64.wrap (i + 1)) (And.intro o6 o7) o8 (by first | (simp only [L65.N, h1, h2, h3, h4, h5, h6, cond_true, cond_false]; done) | (try unfold L65.N; try simp only [h1, cond_true, cond_false]; try simp only [h2, cond_true, cond_false]; try simp only [h3, cond_true, cond_false]; try simp only [h4, cond_true, cond_false]; try simp only [h5, cond_true, cond_false]; try simp only [h6, cond_true, cond_false]; try rfl; done)) PopOk.same)))))))))))))))))))))))))))))))))))⟩
  | false =>
    have h1p := of_decide_eq_false h1
    exact ⟨[.b false], kmp (by kernel_rfl) (And.intro h1 (L65.en s (k_ := k_) (z_ := i) (.e1 : L65.O) (by first | (simp only [L65.N, h1, cond_true, cond_false]; done) | (try unfold L65.N; try simp only [h1, cond_true, cond_false]; try rfl; done)) PopOk.same))⟩
theorem L65.e0 (s : SD) (hl : s.nl = s.nr) (hr : s.nr ≤ 9223372036854775807) (i : Int) (hinv : L65.inv s i) (hN : L65.run s i = (.e0 : L65.O)) : LoopTo Try.prog (loopN Try.f65 0) (L65.T s i) (L65.H s i) (Exit.ret) (L65.X s (.e0 : L65.O)) (L65.XH s (.e0 : L65.O)) := by
  have h_ := L65.spec s hl hr ((((↑s.nr : Int) - i).toNat) + 1) i hinv (Nat.lt_succ_self _)
  unfold L65.run at hN
  simp only [hN] at h_
  exact h_
theorem L65.e1 (s : SD) (hl : s.nl = s.nr) (hr : s.nr ≤ 9223372036854775807) (i : Int) (hinv : L65.inv s i) (hN : L65.run s i = (.e1 : L65.O)) : LoopTo Try.prog (loopN Try.f65 0) (L65.T s i) (L65.H s i) (Exit.exit 0) (L65.X s (.e1 : L65.O)) (L65.XH s (.e1 : L65.O)) := by
  have h_ := L65.spec s hl hr ((((↑s.nr : Int) - i).toNat) + 1) i hinv (Nat.lt_succ_self _)
  unfold L65.run at hN
  simp only [hN] at h_
  exact h_

noncomputable def r65.v (s : SD) : Bool := (bif r39.v s.x then (bif r39.v s.y then (match L65.run s 0 with | .e0 => true | .e1 => false ) else true) else true)
noncomputable abbrev r65.h0 (s : SD) : AHeap := ([AObj.var (AV.agg [AV.str s.nm, AV.int IntKind.i64 s.x, AV.int IntKind.i64 s.y, AV.sl 1 s.nr fun (i : Nat) => AV.int IntKind.i64 (s.r i), AV.sl 1 s.nl fun (i : Nat) => AV.int IntKind.i64 (s.l i)])])
theorem r65 (s : SD) (hl : s.nl = s.nr) (h : AHeap) : Ret Try.prog 65 ([s.av]) h (AV.bool (r65.v s)) h := by
  cases h1 : r39.v s.x with
  | true =>
    cases h2 : r39.v s.y with
    | true =>
      have o0 : s.nl = s.nr := by first | assumption | omega | (simp_all; done)
      have o1 : s.nr ≤ (9223372036854775807 : Nat) := by first | assumption | omega | (simp_all; done)
      have o2 : (0 : Int) ≤ (↑s.nr : Int) := by first | assumption | omega | (simp_all; done)
      cases h3 : L65.run s 0 with
      | e0 =>
        exact Ret.of_run1 mix [(AV.bool (r65.v s))] Try.func65 rfl [.ret (AV.bool (r39.v s.x)) (r65.h0 s), .b false, .b false, .b false, .b false, .ret (AV.bool (r39.v s.y)) (r65.h0 s), .b false, .b false, .b false, .loop (others 74 [1, 2, 18, 19, 20]) (Exit.ret) (L65.X s L65.O.e0) (L65.XH s L65.O.e0)] (by simp) (by simp) (kmp (by kernel_rfl) (And.intro (r39 (s.x) (r65.h0 s)) (And.intro (show (bnot (r39.v s.x)) = false by rw [h1]; try rfl) (And.intro (show (bnot (r39.v s.x)) = false by rw [h1]; try rfl) (And.intro (show (bnot (r39.v s.x)) = false by rw [h1]; try rfl) (And.intro (show (bnot (r39.v s.x)) = false by rw [h1]; try rfl) (And.intro (r39 (s.y) (r65.h0 s)) (And.intro (show (bnot (r39.v s.x)) = false by rw [h1]; try rfl) (And.intro (show (bnot (r39.v s.x)) = false by rw [h1]; try rfl) (And.intro (show (bnot (r39.v s.y)) = false by rw [h2]; try rfl) (And.intro (L65.e0 (s) o0 o1 (0) (And.intro (show (0 : Int) ≤ (0 : Int) by first | decide | exact Int.NonNeg.mk _) o2) h3) (And.intro (show (AV.bool true) = ((AV.bool (r65.v s))) by first | (simp only [r65.v, h1, h2, h3, cond_true, cond_false]; done) | (try unfold r65.v; try simp only [h1, cond_true, cond_false]; try simp only [h2, cond_true, cond_false]; try simp only [h3, cond_true, cond_false]; try rfl; done) | rfl) trivial)))))))))))) h
      | e1 =>
        exact Ret.of_run1 mix [(AV.bool (r65.v s))] Try.func65 rfl [.ret (AV.bool (r39.v s.x)) (r65.h0 s), .b false, .b false, .b false, .b false, .ret (AV.bool (r39.v s.y)) (r65.h0 s), .b false, .b false, .b false, .loop (others 74 [1, 2, 18, 19, 20]) (Exit.exit 0) (L65.X s L65.O.e1) (L65.XH s L65.O.e1)] (by simp) (by simp) (kmp (by kernel_rfl) (And.intro (r39 (s.x) (r65.h0 s)) (And.intro (show (bnot (r39.v s.x)) = false by rw [h1]; try rfl) (And.intro (show (bnot (r39.v s.x)) = false by rw [h1]; try rfl) (And.intro (show (bnot (r39.v s.x)) = false by rw [h1]; try rfl) (And.intro (show (bnot (r39.v s.x)) = false by rw [h1]; try rfl) (And.intro (r39 (s.y) (r65.h0 s)) (And.intro (show (bnot (r39.v s.x)) = false by rw [h1]; try rfl) (And.intro (show (bnot (r39.v s.x)) = false by rw [h1]; try rfl) (And.intro (show (bnot (r39.v s.y)) = false by rw [h2]; try rfl) (And.intro (L65.e1 (s) o0 o1 (0) (And.intro (show (0 : Int) ≤ (0 : Int) by first | decide | exact Int.NonNeg.mk _) o2) h3) (And.intro (show (AV.bool false) = ((AV.bool (r65.v s))) by first | (simp only [r65.v, h1, h2, h3, cond_true, cond_false]; done) | (try unfold r65.v; try simp only [h1, cond_true, cond_false]; try simp only [h2, cond_true, cond_false]; try simp only [h3, cond_true, cond_false]; try rfl; done) | rfl) trivial)))))))))))) h
    | false =>
      exact Ret.of_run1 mix [(AV.bool (r65.v s))] Try.func65 rfl [.ret (AV.bool (r39.v s.x)) (r65.h0 s), .b false, .b false, .b false, .b false, .ret (AV.bool (r39.v s.y)) (r65.h0 s), .b false, .b false, .b true] (by simp) (by simp) (kmp (by kernel_rfl) (And.intro (r39 (s.x) (r65.h0 s)) (And.intro (show (bnot (r39.v s.x)) = false by rw [h1]; try rfl) (And.intro (show (bnot (r39.v s.x)) = false by rw [h1]; try rfl) (And.intro (show (bnot (r39.v s.x)) = false by rw [h1]; try rfl) (And.intro (show (bnot (r39.v s.x)) = false by rw [h1]; try rfl) (And.intro (r39 (s.y) (r65.h0 s)) (And.intro (show (bnot (r39.v s.x)) = false by rw [h1]; try rfl) (And.intro (show (bnot (r39.v s.x)) = false by rw [h1]; try rfl) (And.intro (show (bnot (r39.v s.y)) = true by rw [h2]; try rfl) (And.intro (show (AV.bool true) = ((AV.bool (r65.v s))) by first | (simp only [r65.v, h1, h2, cond_true, cond_false]; done) | (try unfold r65.v; try simp only [h1, cond_true, cond_false]; try simp only [h2, cond_true, cond_false]; try rfl; done) | rfl) trivial))))))))))) h
  | false =>
    exact Ret.of_run1 mix [(AV.bool (r65.v s))] Try.func65 rfl [.ret (AV.bool (r39.v s.x)) (r65.h0 s), .b true, .b true, .b true, .b true, .b true, .b true, .b true] (by simp) (by simp) (kmp (by kernel_rfl) (And.intro (r39 (s.x) (r65.h0 s)) (And.intro (show (bnot (r39.v s.x)) = true by rw [h1]; try rfl) (And.intro (show (bnot (r39.v s.x)) = true by rw [h1]; try rfl) (And.intro (show (bnot (r39.v s.x)) = true by rw [h1]; try rfl) (And.intro (show (bnot (r39.v s.x)) = true by rw [h1]; try rfl) (And.intro (show (bnot (r39.v s.x)) = true by rw [h1]; try rfl) (And.intro (show (bnot (r39.v s.x)) = true by rw [h1]; try rfl) (And.intro (rfl : true = true) (And.intro (show (AV.bool true) = ((AV.bool (r65.v s))) by first | (simp only [r65.v, h1, cond_true, cond_false]; done) | (try unfold r65.v; try simp only [h1, cond_true, cond_false]; try rfl; done) | rfl) trivial)))))))))) h

end Go.Proofs.Ytgmppoappaolkaa

/- The inputs of the crane's laws. Conditions: none. -/
open Go
namespace Go.Proofs.Ytgmppoappaolkaa
open Go.ChangeShapes Go.WideShapes Go.ChangeAt Go.RowKit
theorem own : ownKnob Try.prog.godebug = none := by kernel_rfl
theorem laidOut : laidOutB Try.prog = true := by kernel_rfl

theorem lf_box {P : Program} {cs : List AV} (h : LfFits P [.int .i64, .int .i64, .int .i64, .int .i64, .int .i64, .int .i64] cs) : ∃ a1 a2 a3 a4 a5 a6, AV.agg cs = bx a1 a2 a3 a4 a5 a6 := by
  obtain ⟨a1, _, rfl, _, a2, _, rfl, _, a3, _, rfl, _, a4, _, rfl, _, a5, _, rfl, _, a6, _, rfl, _, rfl⟩ := h
  exact ⟨a1, a2, a3, a4, a5, a6, rfl⟩
theorem lf_vc {P : Program} {cs : List AV} (h : LfFits P [.int .i64, .int .i64, .int .i64] cs) : ∃ a1 a2 a3, AV.agg cs = vc a1 a2 a3 := by
  obtain ⟨a1, _, rfl, _, a2, _, rfl, _, a3, _, rfl, _, rfl⟩ := h
  exact ⟨a1, a2, a3, rfl⟩
theorem lf_pt {P : Program} {cs : List AV} (h : LfFits P [.int .i64, .int .i64] cs) : ∃ x y, AV.agg cs = pt x y := by
  obtain ⟨a1, _, rfl, _, a2, _, rfl, _, rfl⟩ := h
  exact ⟨a1, a2, rfl⟩
theorem lf_int {P : Program} {a : AV} (h : LfFits P [.int .i64] [a]) : ∃ n, a = .int .i64 n := by
  obtain ⟨n, _, e, _, rfl⟩ := h
  cases e
  exact ⟨n, rfl⟩
theorem lf_stand {P : Program} {k e1 e2 : Nat} {cs : List AV} (f1 : flat P k e1 = some [.int .i64]) (f2 : flat P k e2 = some [.int .i64]) (h : LfFits P [.str, .int .i64, .int .i64, .sl k e1 1, .sl k e2 1] cs) : ∃ s : SD, ImpL cs s.av.cells := by
  obtain ⟨nm, _, rfl, h1, x, _, rfl, _, y, _, rfl, _, nr, r, _, rfl, h2, h3, nl, l, _, rfl, h4, h5, rfl⟩ := h
  obtain ⟨r', hr⟩ := imp_ints f1 h3
  obtain ⟨l', hl⟩ := imp_ints f2 h5
  exact ⟨⟨nm, x, y, nr, r', nl, l', le_max h1, le_max h2, le_max h4⟩, .cons (.refl _) (.cons (.refl _) (.cons (.refl _) (.cons hr (.cons hl .nil))))⟩

set_option maxRecDepth 100000 in
theorem arg_box {a : AV} (h : FitsV Try.prog 5 25 a) : ∃ a1 a2 a3 a4 a5 a6, a = bx a1 a2 a3 a4 a5 a6 := by
  obtain ⟨cs, e, h⟩ := fitsV_struct (by kernel_rfl) (by kernel_rfl : flat Try.prog 5 25 = some [.int .i64, .int .i64, .int .i64, .int .i64, .int .i64, .int .i64]) h
  rw [e]
  exact lf_box h
set_option maxRecDepth 100000 in
theorem arg_pt {a : AV} (h : FitsV Try.prog 5 27 a) : ∃ x y, a = pt x y := by
  obtain ⟨cs, e, h⟩ := fitsV_struct (by kernel_rfl) (by kernel_rfl : flat Try.prog 5 27 = some [.int .i64, .int .i64]) h
  rw [e]
  exact lf_pt h
set_option maxRecDepth 100000 in
theorem arg_vec {a : AV} (h : FitsV Try.prog 5 23 a) : ∃ u v w, a = vc u v w := by
  obtain ⟨cs, e, h⟩ := fitsV_struct (by kernel_rfl) (by kernel_rfl : flat Try.prog 5 23 = some [.int .i64, .int .i64, .int .i64]) h
  rw [e]
  exact lf_vc h
set_option maxRecDepth 100000 in
theorem arg_int {a : AV} (h : FitsV Try.prog 5 3 a) : ∃ n, a = .int .i64 n :=
  lf_int (fitsV_one (by kernel_rfl) (by kernel_rfl : flat Try.prog 5 3 = some [.int .i64]) h)
set_option maxRecDepth 100000 in
theorem flat40 : flat Try.prog 3 3 = some [.int .i64] := by kernel_rfl
set_option maxRecDepth 100000 in
theorem flat41 : flat Try.prog 3 2 = some [.int .i64] := by kernel_rfl
set_option maxRecDepth 100000 in
theorem flat40' : flat Try.prog 2 3 = some [.int .i64] := by kernel_rfl
set_option maxRecDepth 100000 in
theorem flat41' : flat Try.prog 2 2 = some [.int .i64] := by kernel_rfl
set_option maxRecDepth 100000 in
theorem arg_stand {a : AV} (h : FitsV Try.prog 5 43 a) : ∃ s : SD, Imp a s.av := by
  obtain ⟨cs, e, h⟩ := fitsV_struct (by kernel_rfl) (by kernel_rfl : flat Try.prog 5 43 = some [.str, .int .i64, .int .i64, .sl 3 3 1, .sl 3 2 1]) h
  rw [e]
  obtain ⟨s, hs⟩ := lf_stand flat40 flat41 h
  exact ⟨s, .agg hs⟩
set_option maxRecDepth 100000 in
theorem flat43 : flat Try.prog 4 43 = some [.str, .int .i64, .int .i64, .sl 2 3 1, .sl 2 2 1] := by kernel_rfl
theorem lf_sl {P : Program} {k e sz : Nat} {a : AV} (h : LfFits P [.sl k e sz] [a]) : ∃ n f, a = .sl sz n f ∧ n ≤ maxLen ∧ ∀ i, i < n → Fits P k e (f i).cells := by
  obtain ⟨n, f, _, e, h1, h2, rfl⟩ := h
  cases e
  exact ⟨n, f, rfl, h1, h2⟩
set_option maxRecDepth 100000 in
theorem arg_stands {a : AV} (h : FitsV Try.prog 5 39 a) : ∃ (n : Nat) (g : Nat → SD), n ≤ 9223372036854775807 ∧ Imp a (sts n g) := by
  obtain ⟨n, f, e, h1, h2⟩ := lf_sl (fitsV_one (by kernel_rfl) (by kernel_rfl : flat Try.prog 5 39 = some [.sl 4 43 5]) h)
  obtain ⟨g, hg⟩ := imp_structs (D := SD) SD.av (sz := 5) flat43 (fun cs hc => lf_stand flat40' flat41' hc) h2
  rw [e]
  exact ⟨n, g, le_max h1, hg⟩
end Go.Proofs.Ytgmppoappaolkaa

/- Mass, Gap, and the law CraneMasses. Conditions: none. -/
open Go
namespace Go.Proofs.Ytgmppoappaolkaa
set_option linter.unusedSimpArgs false
set_option linter.unusedVariables false
set_option maxHeartbeats 0
noncomputable def r12.v0 (a : Int) (b : Int) (c : Int) (d : Int) (e : Int) (f : Int) (n : Int) : Int := (bif r36.v a b c d e f == 0 then (bif r37.v n then massOf a b c d e f n else 0) else 0)
noncomputable def r12.v1 (a : Int) (b : Int) (c : Int) (d : Int) (e : Int) (f : Int) (n : Int) : Int := (bif r36.v a b c d e f == 0 then (bif r37.v n then 0 else 6) else r36.v a b c d e f)
noncomputable abbrev r12.h0 (a : Int) (b : Int) (c : Int) (d : Int) (e : Int) (f : Int) (n : Int) : AHeap := ([AObj.var (AV.agg [AV.int IntKind.i64 a, AV.int IntKind.i64 b, AV.int IntKind.i64 c, AV.int IntKind.i64 d, AV.int IntKind.i64 e, AV.int IntKind.i64 f])])
theorem r12 (a : Int) (b : Int) (c : Int) (d : Int) (e : Int) (f : Int) (n : Int) (h : AHeap) : Ret Try.prog 12 ([bx a b c d e f, AV.int IntKind.i64 n]) h (AV.tup [(AV.int IntKind.i64 (r12.v0 a b c d e f n)), (AV.int IntKind.i64 (r12.v1 a b c d e f n))]) h := by
  cases h1 : r36.v a b c d e f == 0 with
  | true =>
    have h1p := eq_of_beq h1
    cases h2 : r37.v n with
    | true =>
      have o0 : (r36.v a b c d e f == (0 : Int)) = true := by first | assumption | omega | (simp_all; done)
      have o1 : r37.v n = true := by first | assumption | omega | (simp_all; done)
      exact Ret.of_run1 mix [(AV.int IntKind.i64 (r12.v0 a b c d e f n)), (AV.int IntKind.i64 (r12.v1 a b c d e f n))] Try.func12 rfl [.ret (AV.int IntKind.i64 (r36.v a b c d e f)) (r12.h0 a b c d e f n), .b false, .ret (AV.bool (r37.v n)) (r12.h0 a b c d e f n), .b false, .ret (AV.int IntKind.i64 (massOf a b c d e f n)) (r12.h0 a b c d e f n)] (by simp) (by simp) (kmp (by kernel_rfl) (And.intro (r36 (a) (b) (c) (d) (e) (f) (r12.h0 a b c d e f n)) (And.intro (show (bnot (r36.v a b c d e f == 0)) = false by rw [h1]; try rfl) (And.intro (r37 (n) (r12.h0 a b c d e f n)) (And.intro (show (bnot (r37.v n)) = false by rw [h2]; try rfl) (And.intro (r38_ret (a) (b) (c) (d) (e) (f) (n) o0 o1 (r12.h0 a b c d e f n)) (And.intro (show (AV.int IntKind.i64 (massOf a b c d e f n)) = ((AV.int IntKind.i64 (r12.v0 a b c d e f n))) by first | (simp only [r12.v0, r12.v1, h1, h2, cond_true, cond_false]; done) | (try unfold r12.v0; try unfold r12.v1; try simp only [h1, cond_true, cond_false]; try simp only [h2, cond_true, cond_false]; try rfl; done) | rfl) (And.intro (show (AV.int IntKind.i64 0) = ((AV.int IntKind.i64 (r12.v1 a b c d e f n))) by first | (simp only [r12.v0, r12.v1, h1, h2, cond_true, cond_false]; done) | (try unfold r12.v0; try unfold r12.v1; try simp only [h1, cond_true, cond_false]; try simp only [h2, cond_true, cond_false]; try rfl; done) | rfl) trivial)))))))) h
    | false =>
      exact Ret.of_run1 mix [(AV.int IntKind.i64 (r12.v0 a b c d e f n)), (AV.int IntKind.i64 (r12.v1 a b c d e f n))] Try.func12 rfl [.ret (AV.int IntKind.i64 (r36.v a b c d e f)) (r12.h0 a b c d e f n), .b false, .ret (AV.bool (r37.v n)) (r12.h0 a b c d e f n), .b true] (by simp) (by simp) (kmp (by kernel_rfl) (And.intro (r36 (a) (b) (c) (d) (e) (f) (r12.h0 a b c d e f n)) (And.intro (show (bnot (r36.v a b c d e f == 0)) = false by rw [h1]; try rfl) (And.intro (r37 (n) (r12.h0 a b c d e f n)) (And.intro (show (bnot (r37.v n)) = true by rw [h2]; try rfl) (And.intro (show (AV.int IntKind.i64 0) = ((AV.int IntKind.i64 (r12.v0 a b c d e f n))) by first | (simp only [r12.v0, r12.v1, h1, h2, cond_true, cond_false]; done) | (try unfold r12.v0; try unfold r12.v1; try simp only [h1, cond_true, cond_false]; try simp only [h2, cond_true, cond_false]; try rfl; done) | rfl) (And.intro (show (AV.int IntKind.i64 6) = ((AV.int IntKind.i64 (r12.v1 a b c d e f n))) by first | (simp only [r12.v0, r12.v1, h1, h2, cond_true, cond_false]; done) | (try unfold r12.v0; try unfold r12.v1; try simp only [h1, cond_true, cond_false]; try simp only [h2, cond_true, cond_false]; try rfl; done) | rfl) trivial))))))) h
  | false =>
    have h1p := ne_of_beq_false h1
    exact Ret.of_run1 mix [(AV.int IntKind.i64 (r12.v0 a b c d e f n)), (AV.int IntKind.i64 (r12.v1 a b c d e f n))] Try.func12 rfl [.ret (AV.int IntKind.i64 (r36.v a b c d e f)) (r12.h0 a b c d e f n), .b true] (by simp) (by simp) (kmp (by kernel_rfl) (And.intro (r36 (a) (b) (c) (d) (e) (f) (r12.h0 a b c d e f n)) (And.intro (show (bnot (r36.v a b c d e f == 0)) = true by rw [h1]; try rfl) (And.intro (show (AV.int IntKind.i64 0) = ((AV.int IntKind.i64 (r12.v0 a b c d e f n))) by first | (simp only [r12.v0, r12.v1, h1, cond_true, cond_false]; done) | (try unfold r12.v0; try unfold r12.v1; try simp only [h1, cond_true, cond_false]; try rfl; done) | rfl) (And.intro (show (AV.int IntKind.i64 (r36.v a b c d e f)) = ((AV.int IntKind.i64 (r12.v1 a b c d e f n))) by first | (simp only [r12.v0, r12.v1, h1, cond_true, cond_false]; done) | (try unfold r12.v0; try unfold r12.v1; try simp only [h1, cond_true, cond_false]; try rfl; done) | rfl) trivial))))) h

noncomputable def r13.v0 (x : Int) (y : Int) (a : Int) (b : Int) (c : Int) (d : Int) (e : Int) (f : Int) : Int := (bif r39.v x then (bif r39.v y then (bif r36.v a b c d e f == 0 then r40.v x y a b d e else 0) else 0) else 0)
noncomputable def r13.v1 (x : Int) (y : Int) (a : Int) (b : Int) (c : Int) (d : Int) (e : Int) (f : Int) : Int := (bif r39.v x then (bif r39.v y then (bif r36.v a b c d e f == 0 then 0 else r36.v a b c d e f) else 6) else 6)
noncomputable abbrev r13.h0 (x : Int) (y : Int) (a : Int) (b : Int) (c : Int) (d : Int) (e : Int) (f : Int) : AHeap := ([AObj.var (AV.agg [AV.int IntKind.i64 x, AV.int IntKind.i64 y]), AObj.var (AV.agg [AV.int IntKind.i64 a, AV.int IntKind.i64 b, AV.int IntKind.i64 c, AV.int IntKind.i64 d, AV.int IntKind.i64 e, AV.int IntKind.i64 f])])
theorem r13 (x : Int) (y : Int) (a : Int) (b : Int) (c : Int) (d : Int) (e : Int) (f : Int) (h : AHeap) : Ret Try.prog 13 ([pt x y, bx a b c d e f]) h (AV.tup [(AV.int IntKind.i64 (r13.v0 x y a b c d e f)), (AV.int IntKind.i64 (r13.v1 x y a b c d e f))]) h := by
  cases h1 : r39.v x with
  | true =>
    cases h2 : r39.v y with
    | true =>
      cases h3 : r36.v a b c d e f == 0 with
      | true =>
        have h3p := eq_of_beq h3
        exact Ret.of_run1 mix [(AV.int IntKind.i64 (r13.v0 x y a b c d e f)), (AV.int IntKind.i64 (r13.v1 x y a b c d e f))] Try.func13 rfl [.ret (AV.bool (r39.v x)) (r13.h0 x y a b c d e f), .b false, .b false, .b false, .ret (AV.bool (r39.v y)) (r13.h0 x y a b c d e f), .b false, .b false, .b false, .ret (AV.int IntKind.i64 (r36.v a b c d e f)) (r13.h0 x y a b c d e f), .b false, .ret (AV.int IntKind.i64 (r40.v x y a b d e)) (r13.h0 x y a b c d e f)] (by simp) (by simp) (kmp (by kernel_rfl) (And.intro (r39 (x) (r13.h0 x y a b c d e f)) (And.intro (show (bnot (r39.v x)) = false by rw [h1]; try rfl) (And.intro (show (bnot (r39.v x)) = false by rw [h1]; try rfl) (And.intro (show (bnot (r39.v x)) = false by rw [h1]; try rfl) (And.intro (r39 (y) (r13.h0 x y a b c d e f)) (And.intro (show (bnot (r39.v x)) = false by rw [h1]; try rfl) (And.intro (show (bnot (r39.v x)) = false by rw [h1]; try rfl) (And.intro (show (bnot (r39.v y)) = false by rw [h2]; try rfl) (And.intro (r36 (a) (b) (c) (d) (e) (f) (r13.h0 x y a b c d e f)) (And.intro (show (bnot (r36.v a b c d e f == 0)) = false by rw [h3]; try rfl) (And.intro (r40 (x) (y) (a) (b) (c) (d) (e) (f) (r13.h0 x y a b c d e f)) (And.intro (show (AV.int IntKind.i64 (r40.v x y a b d e)) = ((AV.int IntKind.i64 (r13.v0 x y a b c d e f))) by first | (simp only [r13.v0, r13.v1, h1, h2, h3, cond_true, cond_false]; done) | (try unfold r13.v0; try unfold r13.v1; try simp only [h1, cond_true, cond_false]; try simp only [h2, cond_true, cond_false]; try simp only [h3, cond_true, cond_false]; try rfl; done) | rfl) (And.intro (show (AV.int IntKind.i64 0) = ((AV.int IntKind.i64 (r13.v1 x y a b c d e f))) by first | (simp only [r13.v0, r13.v1, h1, h2, h3, cond_true, cond_false]; done) | (try unfold r13.v0; try unfold r13.v1; try simp only [h1, cond_true, cond_false]; try simp only [h2, cond_true, cond_false]; try simp only [h3, cond_true, cond_false]; try rfl; done) | rfl) trivial)))))))))))))) h
      | false =>
        have h3p := ne_of_beq_false h3
        exact Ret.of_run1 mix [(AV.int IntKind.i64 (r13.v0 x y a b c d e f)), (AV.int IntKind.i64 (r13.v1 x y a b c d e f))] Try.func13 rfl [.ret (AV.bool (r39.v x)) (r13.h0 x y a b c d e f), .b false, .b false, .b false, .ret (AV.bool (r39.v y)) (r13.h0 x y a b c d e f), .b false, .b false, .b false, .ret (AV.int IntKind.i64 (r36.v a b c d e f)) (r13.h0 x y a b c d e f), .b true] (by simp) (by simp) (kmp (by kernel_rfl) (And.intro (r39 (x) (r13.h0 x y a b c d e f)) (And.intro (show (bnot (r39.v x)) = false by rw [h1]; try rfl) (And.intro (show (bnot (r39.v x)) = false by rw [h1]; try rfl) (And.intro (show (bnot (r39.v x)) = false by rw [h1]; try rfl) (And.intro (r39 (y) (r13.h0 x y a b c d e f)) (And.intro (show (bnot (r39.v x)) = false by rw [h1]; try rfl) (And.intro (show (bnot (r39.v x)) = false by rw [h1]; try rfl) (And.intro (show (bnot (r39.v y)) = false by rw [h2]; try rfl) (And.intro (r36 (a) (b) (c) (d) (e) (f) (r13.h0 x y a b c d e f)) (And.intro (show (bnot (r36.v a b c d e f == 0)) = true by rw [h3]; try rfl) (And.intro (show (AV.int IntKind.i64 0) = ((AV.int IntKind.i64 (r13.v0 x y a b c d e f))) by first | (simp only [r13.v0, r13.v1, h1, h2, h3, cond_true, cond_false]; done) | (try unfold r13.v0; try unfold r13.v1; try simp only [h1, cond_true, cond_false]; try simp only [h2, cond_true, cond_false]; try simp only [h3, cond_true, cond_false]; try rfl; done) | rfl) (And.intro (show (AV.int IntKind.i64 (r36.v a b c d e f)) = ((AV.int IntKind.i64 (r13.v1 x y a b c d e f))) by first | (simp only [r13.v0, r13.v1, h1, h2, h3, cond_true, cond_false]; done) | (try unfold r13.v0; try unfold r13.v1; try simp only [h1, cond_true, cond_false]; try simp only [h2, cond_true, cond_false]; try simp only [h3, cond_true, cond_false]; try rfl; done) | rfl) trivial))))))))))))) h
    | false =>
      exact Ret.of_run1 mix [(AV.int IntKind.i64 (r13.v0 x y a b c d e f)), (AV.int IntKind.i64 (r13.v1 x y a b c d e f))] Try.func13 rfl [.ret (AV.bool (r39.v x)) (r13.h0 x y a b c d e f), .b false, .b false, .b false, .ret (AV.bool (r39.v y)) (r13.h0 x y a b c d e f), .b false, .b false, .b true] (by simp) (by simp) (kmp (by kernel_rfl) (And.intro (r39 (x) (r13.h0 x y a b c d e f)) (And.intro (show (bnot (r39.v x)) = false by rw [h1]; try rfl) (And.intro (show (bnot (r39.v x)) = false by rw [h1]; try rfl) (And.intro (show (bnot (r39.v x)) = false by rw [h1]; try rfl) (And.intro (r39 (y) (r13.h0 x y a b c d e f)) (And.intro (show (bnot (r39.v x)) = false by rw [h1]; try rfl) (And.intro (show (bnot (r39.v x)) = false by rw [h1]; try rfl) (And.intro (show (bnot (r39.v y)) = true by rw [h2]; try rfl) (And.intro (show (AV.int IntKind.i64 0) = ((AV.int IntKind.i64 (r13.v0 x y a b c d e f))) by first | (simp only [r13.v0, r13.v1, h1, h2, cond_true, cond_false]; done) | (try unfold r13.v0; try unfold r13.v1; try simp only [h1, cond_true, cond_false]; try simp only [h2, cond_true, cond_false]; try rfl; done) | rfl) (And.intro (show (AV.int IntKind.i64 6) = ((AV.int IntKind.i64 (r13.v1 x y a b c d e f))) by first | (simp only [r13.v0, r13.v1, h1, h2, cond_true, cond_false]; done) | (try unfold r13.v0; try unfold r13.v1; try simp only [h1, cond_true, cond_false]; try simp only [h2, cond_true, cond_false]; try rfl; done) | rfl) trivial))))))))))) h
  | false =>
    exact Ret.of_run1 mix [(AV.int IntKind.i64 (r13.v0 x y a b c d e f)), (AV.int IntKind.i64 (r13.v1 x y a b c d e f))] Try.func13 rfl [.ret (AV.bool (r39.v x)) (r13.h0 x y a b c d e f), .b true, .b true, .b true, .b true, .b true, .b true] (by simp) (by simp) (kmp (by kernel_rfl) (And.intro (r39 (x) (r13.h0 x y a b c d e f)) (And.intro (show (bnot (r39.v x)) = true by rw [h1]; try rfl) (And.intro (show (bnot (r39.v x)) = true by rw [h1]; try rfl) (And.intro (show (bnot (r39.v x)) = true by rw [h1]; try rfl) (And.intro (show (bnot (r39.v x)) = true by rw [h1]; try rfl) (And.intro (show (bnot (r39.v x)) = true by rw [h1]; try rfl) (And.intro (rfl : true = true) (And.intro (show (AV.int IntKind.i64 0) = ((AV.int IntKind.i64 (r13.v0 x y a b c d e f))) by first | (simp only [r13.v0, r13.v1, h1, cond_true, cond_false]; done) | (try unfold r13.v0; try unfold r13.v1; try simp only [h1, cond_true, cond_false]; try rfl; done) | rfl) (And.intro (show (AV.int IntKind.i64 6) = ((AV.int IntKind.i64 (r13.v1 x y a b c d e f))) by first | (simp only [r13.v0, r13.v1, h1, cond_true, cond_false]; done) | (try unfold r13.v0; try unfold r13.v1; try simp only [h1, cond_true, cond_false]; try rfl; done) | rfl) trivial)))))))))) h

noncomputable def r3.v (a : Int) (b : Int) (c : Int) (d : Int) (e : Int) (f : Int) (n : Int) (x : Int) (y : Int) : Bool := (bif r15.v x y then (bif r14.v a b c d e f == 0 then (bif r13.v1 x y a b c d e f == 0 then (bif r13.v0 x y a b c d e f == r16.v x y a b d e then (bif r17.v n then (bif r12.v1 a b c d e f n == 0 then r12.v0 a b c d e f n == r18.v a b c d e f n else false) else (bif r12.v1 a b c d e f n == 6 then r12.v0 a b c d e f n == 0 else false)) else false) else false) else (bif r13.v1 x y a b c d e f == r14.v a b c d e f then (bif r13.v0 x y a b c d e f == 0 then (bif r12.v1 a b c d e f n == r14.v a b c d e f then r12.v0 a b c d e f n == 0 else false) else false) else false)) else (bif r13.v1 x y a b c d e f == 6 then (bif r13.v0 x y a b c d e f == 0 then (bif r14.v a b c d e f == 0 then (bif r17.v n then (bif r12.v1 a b c d e f n == 0 then r12.v0 a b c d e f n == r18.v a b c d e f n else false) else (bif r12.v1 a b c d e f n == 6 then r12.v0 a b c d e f n == 0 else false)) else (bif r12.v1 a b c d e f n == r14.v a b c d e f then r12.v0 a b c d e f n == 0 else false)) else false) else false))
noncomputable abbrev r3.h0 (a : Int) (b : Int) (c : Int) (d : Int) (e : Int) (f : Int) (n : Int) (x : Int) (y : Int) : AHeap := ([AObj.var (AV.agg [AV.int IntKind.i64 a, AV.int IntKind.i64 b, AV.int IntKind.i64 c, AV.int IntKind.i64 d, AV.int IntKind.i64 e, AV.int IntKind.i64 f]), AObj.var (AV.agg [AV.int IntKind.i64 x, AV.int IntKind.i64 y])])
theorem r3 (a : Int) (b : Int) (c : Int) (d : Int) (e : Int) (f : Int) (n : Int) (x : Int) (y : Int) (h : AHeap) : Ret Try.prog 3 ([bx a b c d e f, AV.int IntKind.i64 n, pt x y]) h (AV.bool (r3.v a b c d e f n x y)) h := by
  cases h1 : r15.v x y with
  | true =>
    cases h2 : r14.v a b c d e f == 0 with
    | true =>
      have h2p := eq_of_beq h2
      cases h3 : r13.v1 x y a b c d e f == 0 with
      | true =>
        have h3p := eq_of_beq h3
        cases h4 : r13.v0 x y a b c d e f == r16.v x y a b d e with
        | true =>
          have h4p := eq_of_beq h4
          cases h5 : r17.v n with
          | true =>
            cases h6 : r12.v1 a b c d e f n == 0 with
            | true =>
              have h6p := eq_of_beq h6
              exact Ret.of_run1 mix [(AV.bool (r3.v a b c d e f n x y))] Try.func3 rfl [.ret (AV.bool true) (r3.h0 a b c d e f n x y), .b false, .ret (AV.tup [AV.int IntKind.i64 (r12.v0 a b c d e f n), AV.int IntKind.i64 (r12.v1 a b c d e f n)]) (r3.h0 a b c d e f n x y), .ret (AV.tup [AV.int IntKind.i64 (r13.v0 x y a b c d e f), AV.int IntKind.i64 (r13.v1 x y a b c d e f)]) (r3.h0 a b c d e f n x y), .ret (AV.int IntKind.i64 (r14.v a b c d e f)) (r3.h0 a b c d e f n x y), .ret (AV.bool (r15.v x y)) (r3.h0 a b c d e f n x y), .b false, .b false, .b false, .b false, .b false, .b false, .ret (AV.int IntKind.i64 (r16.v x y a b d e)) (r3.h0 a b c d e f n x y), .b false, .b false, .b false, .b true, .b true, .ret (AV.bool (r17.v n)) (r3.h0 a b c d e f n x y), .b true, .b true, .b false, .b false, .b true, .b true, .b true, .b true, .ret (AV.int IntKind.i64 (r18.v a b c d e f n)) (r3.h0 a b c d e f n x y), .b true, .b true] (by simp) (by simp) (kmp (by kernel_rfl) (And.intro (r11 (r3.h0 a b c d e f n x y)) (And.intro (rfl : false = false) (And.intro (r12 (a) (b) (c) (d) (e) (f) (n) (r3.h0 a b c d e f n x y)) (And.intro (r13 (x) (y) (a) (b) (c) (d) (e) (f) (r3.h0 a b c d e f n x y)) (And.intro (r14 (a) (b) (c) (d) (e) (f) (r3.h0 a b c d e f n x y)) (And.intro (r15 (x) (y) (r3.h0 a b c d e f n x y)) (And.intro (show (bnot (r15.v x y)) = false by rw [h1]; try rfl) (And.intro (show (bnot (r14.v a b c d e f == 0)) = false by rw [h2]; try rfl) (And.intro (show (bnot (r13.v1 x y a b c d e f == 0)) = false by rw [h3]; try rfl) (And.intro (show (bnot (r13.v1 x y a b c d e f == 0)) = false by rw [h3]; try rfl) (And.intro (show (bnot (r13.v1 x y a b c d e f == 0)) = false by rw [h3]; try rfl) (And.intro (show (bnot (r13.v1 x y a b c d e f == 0)) = false by rw [h3]; try rfl) (And.intro (r16 (x) (y) (a) (b) (c) (d) (e) (f) (r3.h0 a b c d e f n x y)) (And.intro (show (bnot (r13.v1 x y a b c d e f == 0)) = false by rw [h3]; try rfl) (And.intro (show (bnot (r13.v1 x y a b c d e f == 0)) = false by rw [h3]; try rfl) (And.intro (show (bnot (r13.v0 x y a b c d e f == r16.v x y a b d e)) = false by rw [h4]; try rfl) (And.intro h2 (And.intro h2 (And.intro (r17 (n) (r3.h0 a b c d e f n x y)) (And.intro h2 (And.intro h2 (And.intro (show (bnot (r17.v n)) = false by rw [h5]; try rfl) (And.intro (show (bnot (r14.v a b c d e f == 0)) = false by rw [h2]; try rfl) (And.intro h6 (And.intro h6 (And.intro h6 (And.intro h6 (And.intro (r18 (a) (b) (c) (d) (e) (f) (n) (r3.h0 a b c d e f n x y)) (And.intro h6 (And.intro h6 (And.intro (show (AV.bool (r12.v0 a b c d e f n == r18.v a b c d e f n)) = ((AV.bool (r3.v a b c d e f n x y))) by first | (simp only [r3.v, h1, h2, h3, h4, h5, h6, cond_true, cond_false]; done) | (try unfold r3.v; try simp only [h1, cond_true, cond_false]; try simp only [h2, cond_true, cond_false]; try simp only [h3, cond_true, cond_false]; try simp only [h4, cond_true, cond_false]; try simp only [h5, cond_true, cond_false]; try simp only [h6, cond_true, cond_false]; try rfl; done) | rfl) trivial)))))))))))))))))))))))))))))))) h
            | false =>
              have h6p := ne_of_beq_false h6
              exact Ret.of_run1 mix [(AV.bool (r3.v a b c d e f n x y))] Try.func3 rfl [.ret (AV.bool true) (r3.h0 a b c d e f n x y), .b false, .ret (AV.tup [AV.int IntKind.i64 (r12.v0 a b c d e f n), AV.int IntKind.i64 (r12.v1 a b c d e f n)]) (r3.h0 a b c d e f n x y), .ret (AV.tup [AV.int IntKind.i64 (r13.v0 x y a b c d e f), AV.int IntKind.i64 (r13.v1 x y a b c d e f)]) (r3.h0 a b c d e f n x y), .ret (AV.int IntKind.i64 (r14.v a b c d e f)) (r3.h0 a b c d e f n x y), .ret (AV.bool (r15.v x y)) (r3.h0 a b c d e f n x y), .b false, .b false, .b false, .b false, .b false, .b false, .ret (AV.int IntKind.i64 (r16.v x y a b d e)) (r3.h0 a b c d e f n x y), .b false, .b false, .b false, .b true, .b true, .ret (AV.bool (r17.v n)) (r3.h0 a b c d e f n x y), .b true, .b true, .b false, .b false, .b false, .b false, .b false, .b false, .b false, .b false] (by simp) (by simp) (kmp (by kernel_rfl) (And.intro (r11 (r3.h0 a b c d e f n x y)) (And.intro (rfl : false = false) (And.intro (r12 (a) (b) (c) (d) (e) (f) (n) (r3.h0 a b c d e f n x y)) (And.intro (r13 (x) (y) (a) (b) (c) (d) (e) (f) (r3.h0 a b c d e f n x y)) (And.intro (r14 (a) (b) (c) (d) (e) (f) (r3.h0 a b c d e f n x y)) (And.intro (r15 (x) (y) (r3.h0 a b c d e f n x y)) (And.intro (show (bnot (r15.v x y)) = false by rw [h1]; try rfl) (And.intro (show (bnot (r14.v a b c d e f == 0)) = false by rw [h2]; try rfl) (And.intro (show (bnot (r13.v1 x y a b c d e f == 0)) = false by rw [h3]; try rfl) (And.intro (show (bnot (r13.v1 x y a b c d e f == 0)) = false by rw [h3]; try rfl) (And.intro (show (bnot (r13.v1 x y a b c d e f == 0)) = false by rw [h3]; try rfl) (And.intro (show (bnot (r13.v1 x y a b c d e f == 0)) = false by rw [h3]; try rfl) (And.intro (r16 (x) (y) (a) (b) (c) (d) (e) (f) (r3.h0 a b c d e f n x y)) (And.intro (show (bnot (r13.v1 x y a b c d e f == 0)) = false by rw [h3]; try rfl) (And.intro (show (bnot (r13.v1 x y a b c d e f == 0)) = false by rw [h3]; try rfl) (And.intro (show (bnot (r13.v0 x y a b c d e f == r16.v x y a b d e)) = false by rw [h4]; try rfl) (And.intro h2 (And.intro h2 (And.intro (r17 (n) (r3.h0 a b c d e f n x y)) (And.intro h2 (And.intro h2 (And.intro (show (bnot (r17.v n)) = false by rw [h5]; try rfl) (And.intro (show (bnot (r14.v a b c d e f == 0)) = false by rw [h2]; try rfl) (And.intro h6 (And.intro h6 (And.intro h6 (And.intro h6 (And.intro h6 (And.intro h6 (And.intro (show (AV.bool false) = ((AV.bool (r3.v a b c d e f n x y))) by first | (simp only [r3.v, h1, h2, h3, h4, h5, h6, cond_true, cond_false]; done) | (try unfold r3.v; try simp only [h1, cond_true, cond_false]; try simp only [h2, cond_true, cond_false]; try simp only [h3, cond_true, cond_false]; try simp only [h4, cond_true, cond_false]; try simp only [h5, cond_true, cond_false]; try simp only [h6, cond_true, cond_false]; try rfl; done) | rfl) trivial))))))))))))))))))))))))))))))) h
          | false =>
            cases h6 : r12.v1 a b c d e f n == 6 with
            | true =>
              have h6p := eq_of_beq h6
              exact Ret.of_run1 mix [(AV.bool (r3.v a b c d e f n x y))] Try.func3 rfl [.ret (AV.bool true) (r3.h0 a b c d e f n x y), .b false, .ret (AV.tup [AV.int IntKind.i64 (r12.v0 a b c d e f n), AV.int IntKind.i64 (r12.v1 a b c d e f n)]) (r3.h0 a b c d e f n x y), .ret (AV.tup [AV.int IntKind.i64 (r13.v0 x y a b c d e f), AV.int IntKind.i64 (r13.v1 x y a b c d e f)]) (r3.h0 a b c d e f n x y), .ret (AV.int IntKind.i64 (r14.v a b c d e f)) (r3.h0 a b c d e f n x y), .ret (AV.bool (r15.v x y)) (r3.h0 a b c d e f n x y), .b false, .b false, .b false, .b false, .b false, .b false, .ret (AV.int IntKind.i64 (r16.v x y a b d e)) (r3.h0 a b c d e f n x y), .b false, .b false, .b false, .b true, .b true, .ret (AV.bool (r17.v n)) (r3.h0 a b c d e f n x y), .b true, .b true, .b true, .b true, .b true, .b true, .b true] (by simp) (by simp) (kmp (by kernel_rfl) (And.intro (r11 (r3.h0 a b c d e f n x y)) (And.intro (rfl : false = false) (And.intro (r12 (a) (b) (c) (d) (e) (f) (n) (r3.h0 a b c d e f n x y)) (And.intro (r13 (x) (y) (a) (b) (c) (d) (e) (f) (r3.h0 a b c d e f n x y)) (And.intro (r14 (a) (b) (c) (d) (e) (f) (r3.h0 a b c d e f n x y)) (And.intro (r15 (x) (y) (r3.h0 a b c d e f n x y)) (And.intro (show (bnot (r15.v x y)) = false by rw [h1]; try rfl) (And.intro (show (bnot (r14.v a b c d e f == 0)) = false by rw [h2]; try rfl) (And.intro (show (bnot (r13.v1 x y a b c d e f == 0)) = false by rw [h3]; try rfl) (And.intro (show (bnot (r13.v1 x y a b c d e f == 0)) = false by rw [h3]; try rfl) (And.intro (show (bnot (r13.v1 x y a b c d e f == 0)) = false by rw [h3]; try rfl) (And.intro (show (bnot (r13.v1 x y a b c d e f == 0)) = false by rw [h3]; try rfl) (And.intro (r16 (x) (y) (a) (b) (c) (d) (e) (f) (r3.h0 a b c d e f n x y)) (And.intro (show (bnot (r13.v1 x y a b c d e f == 0)) = false by rw [h3]; try rfl) (And.intro (show (bnot (r13.v1 x y a b c d e f == 0)) = false by rw [h3]; try rfl) (And.intro (show (bnot (r13.v0 x y a b c d e f == r16.v x y a b d e)) = false by rw [h4]; try rfl) (And.intro h2 (And.intro h2 (And.intro (r17 (n) (r3.h0 a b c d e f n x y)) (And.intro h2 (And.intro h2 (And.intro (show (bnot (r17.v n)) = true by rw [h5]; try rfl) (And.intro (rfl : true = true) (And.intro h6 (And.intro h6 (And.intro h6 (And.intro (show (AV.bool (r12.v0 a b c d e f n == 0)) = ((AV.bool (r3.v a b c d e f n x y))) by first | (simp only [r3.v, h1, h2, h3, h4, h5, h6, cond_true, cond_false]; done) | (try unfold r3.v; try simp only [h1, cond_true, cond_false]; try simp only [h2, cond_true, cond_false]; try simp only [h3, cond_true, cond_false]; try simp only [h4, cond_true, cond_false]; try simp only [h5, cond_true, cond_false]; try simp only [h6, cond_true, cond_false]; try rfl; done) | rfl) trivial)))))))))))))))))))))))))))) h
            | false =>
              have h6p := ne_of_beq_false h6
              exact Ret.of_run1 mix [(AV.bool (r3.v a b c d e f n x y))] Try.func3 rfl [.ret (AV.bool true) (r3.h0 a b c d e f n x y), .b false, .ret (AV.tup [AV.int IntKind.i64 (r12.v0 a b c d e f n), AV.int IntKind.i64 (r12.v1 a b c d e f n)]) (r3.h0 a b c d e f n x y), .ret (AV.tup [AV.int IntKind.i64 (r13.v0 x y a b c d e f), AV.int IntKind.i64 (r13.v1 x y a b c d e f)]) (r3.h0 a b c d e f n x y), .ret (AV.int IntKind.i64 (r14.v a b c d e f)) (r3.h0 a b c d e f n x y), .ret (AV.bool (r15.v x y)) (r3.h0 a b c d e f n x y), .b false, .b false, .b false, .b false, .b false, .b false, .ret (AV.int IntKind.i64 (r16.v x y a b d e)) (r3.h0 a b c d e f n x y), .b false, .b false, .b false, .b true, .b true, .ret (AV.bool (r17.v n)) (r3.h0 a b c d e f n x y), .b true, .b true, .b true, .b true, .b false, .b false, .b false] (by simp) (by simp) (kmp (by kernel_rfl) (And.intro (r11 (r3.h0 a b c d e f n x y)) (And.intro (rfl : false = false) (And.intro (r12 (a) (b) (c) (d) (e) (f) (n) (r3.h0 a b c d e f n x y)) (And.intro (r13 (x) (y) (a) (b) (c) (d) (e) (f) (r3.h0 a b c d e f n x y)) (And.intro (r14 (a) (b) (c) (d) (e) (f) (r3.h0 a b c d e f n x y)) (And.intro (r15 (x) (y) (r3.h0 a b c d e f n x y)) (And.intro (show (bnot (r15.v x y)) = false by rw [h1]; try rfl) (And.intro (show (bnot (r14.v a b c d e f == 0)) = false by rw [h2]; try rfl) (And.intro (show (bnot (r13.v1 x y a b c d e f == 0)) = false by rw [h3]; try rfl) (And.intro (show (bnot (r13.v1 x y a b c d e f == 0)) = false by rw [h3]; try rfl) (And.intro (show (bnot (r13.v1 x y a b c d e f == 0)) = false by rw [h3]; try rfl) (And.intro (show (bnot (r13.v1 x y a b c d e f == 0)) = false by rw [h3]; try rfl) (And.intro (r16 (x) (y) (a) (b) (c) (d) (e) (f) (r3.h0 a b c d e f n x y)) (And.intro (show (bnot (r13.v1 x y a b c d e f == 0)) = false by rw [h3]; try rfl) (And.intro (show (bnot (r13.v1 x y a b c d e f == 0)) = false by rw [h3]; try rfl) (And.intro (show (bnot (r13.v0 x y a b c d e f == r16.v x y a b d e)) = false by rw [h4]; try rfl) (And.intro h2 (And.intro h2 (And.intro (r17 (n) (r3.h0 a b c d e f n x y)) (And.intro h2 (And.intro h2 (And.intro (show (bnot (r17.v n)) = true by rw [h5]; try rfl) (And.intro (rfl : true = true) (And.intro h6 (And.intro h6 (And.intro h6 (And.intro (show (AV.bool false) = ((AV.bool (r3.v a b c d e f n x y))) by first | (simp only [r3.v, h1, h2, h3, h4, h5, h6, cond_true, cond_false]; done) | (try unfold r3.v; try simp only [h1, cond_true, cond_false]; try simp only [h2, cond_true, cond_false]; try simp only [h3, cond_true, cond_false]; try simp only [h4, cond_true, cond_false]; try simp only [h5, cond_true, cond_false]; try simp only [h6, cond_true, cond_false]; try rfl; done) | rfl) trivial)))))))))))))))))))))))))))) h
        | false =>
          have h4p := ne_of_beq_false h4
          exact Ret.of_run1 mix [(AV.bool (r3.v a b c d e f n x y))] Try.func3 rfl [.ret (AV.bool true) (r3.h0 a b c d e f n x y), .b false, .ret (AV.tup [AV.int IntKind.i64 (r12.v0 a b c d e f n), AV.int IntKind.i64 (r12.v1 a b c d e f n)]) (r3.h0 a b c d e f n x y), .ret (AV.tup [AV.int IntKind.i64 (r13.v0 x y a b c d e f), AV.int IntKind.i64 (r13.v1 x y a b c d e f)]) (r3.h0 a b c d e f n x y), .ret (AV.int IntKind.i64 (r14.v a b c d e f)) (r3.h0 a b c d e f n x y), .ret (AV.bool (r15.v x y)) (r3.h0 a b c d e f n x y), .b false, .b false, .b false, .b false, .b false, .b false, .ret (AV.int IntKind.i64 (r16.v x y a b d e)) (r3.h0 a b c d e f n x y), .b false, .b false, .b true] (by simp) (by simp) (kmp (by kernel_rfl) (And.intro (r11 (r3.h0 a b c d e f n x y)) (And.intro (rfl : false = false) (And.intro (r12 (a) (b) (c) (d) (e) (f) (n) (r3.h0 a b c d e f n x y)) (And.intro (r13 (x) (y) (a) (b) (c) (d) (e) (f) (r3.h0 a b c d e f n x y)) (And.intro (r14 (a) (b) (c) (d) (e) (f) (r3.h0 a b c d e f n x y)) (And.intro (r15 (x) (y) (r3.h0 a b c d e f n x y)) (And.intro (show (bnot (r15.v x y)) = false by rw [h1]; try rfl) (And.intro (show (bnot (r14.v a b c d e f == 0)) = false by rw [h2]; try rfl) (And.intro (show (bnot (r13.v1 x y a b c d e f == 0)) = false by rw [h3]; try rfl) (And.intro (show (bnot (r13.v1 x y a b c d e f == 0)) = false by rw [h3]; try rfl) (And.intro (show (bnot (r13.v1 x y a b c d e f == 0)) = false by rw [h3]; try rfl) (And.intro (show (bnot (r13.v1 x y a b c d e f == 0)) = false by rw [h3]; try rfl) (And.intro (r16 (x) (y) (a) (b) (c) (d) (e) (f) (r3.h0 a b c d e f n x y)) (And.intro (show (bnot (r13.v1 x y a b c d e f == 0)) = false by rw [h3]; try rfl) (And.intro (show (bnot (r13.v1 x y a b c d e f == 0)) = false by rw [h3]; try rfl) (And.intro (show (bnot (r13.v0 x y a b c d e f == r16.v x y a b d e)) = true by rw [h4]; try rfl) (And.intro (show (AV.bool false) = ((AV.bool (r3.v a b c d e f n x y))) by first | (simp only [r3.v, h1, h2, h3, h4, cond_true, cond_false]; done) | (try unfold r3.v; try simp only [h1, cond_true, cond_false]; try simp only [h2, cond_true, cond_false]; try simp only [h3, cond_true, cond_false]; try simp only [h4, cond_true, cond_false]; try rfl; done) | rfl) trivial)))))))))))))))))) h
      | false =>
        have h3p := ne_of_beq_false h3
        exact Ret.of_run1 mix [(AV.bool (r3.v a b c d e f n x y))] Try.func3 rfl [.ret (AV.bool true) (r3.h0 a b c d e f n x y), .b false, .ret (AV.tup [AV.int IntKind.i64 (r12.v0 a b c d e f n), AV.int IntKind.i64 (r12.v1 a b c d e f n)]) (r3.h0 a b c d e f n x y), .ret (AV.tup [AV.int IntKind.i64 (r13.v0 x y a b c d e f), AV.int IntKind.i64 (r13.v1 x y a b c d e f)]) (r3.h0 a b c d e f n x y), .ret (AV.int IntKind.i64 (r14.v a b c d e f)) (r3.h0 a b c d e f n x y), .ret (AV.bool (r15.v x y)) (r3.h0 a b c d e f n x y), .b false, .b false, .b true, .b true, .b true, .b true, .b true, .b true, .b true] (by simp) (by simp) (kmp (by kernel_rfl) (And.intro (r11 (r3.h0 a b c d e f n x y)) (And.intro (rfl : false = false) (And.intro (r12 (a) (b) (c) (d) (e) (f) (n) (r3.h0 a b c d e f n x y)) (And.intro (r13 (x) (y) (a) (b) (c) (d) (e) (f) (r3.h0 a b c d e f n x y)) (And.intro (r14 (a) (b) (c) (d) (e) (f) (r3.h0 a b c d e f n x y)) (And.intro (r15 (x) (y) (r3.h0 a b c d e f n x y)) (And.intro (show (bnot (r15.v x y)) = false by rw [h1]; try rfl) (And.intro (show (bnot (r14.v a b c d e f == 0)) = false by rw [h2]; try rfl) (And.intro (show (bnot (r13.v1 x y a b c d e f == 0)) = true by rw [h3]; try rfl) (And.intro (show (bnot (r13.v1 x y a b c d e f == 0)) = true by rw [h3]; try rfl) (And.intro (show (bnot (r13.v1 x y a b c d e f == 0)) = true by rw [h3]; try rfl) (And.intro (show (bnot (r13.v1 x y a b c d e f == 0)) = true by rw [h3]; try rfl) (And.intro (show (bnot (r13.v1 x y a b c d e f == 0)) = true by rw [h3]; try rfl) (And.intro (show (bnot (r13.v1 x y a b c d e f == 0)) = true by rw [h3]; try rfl) (And.intro (rfl : true = true) (And.intro (show (AV.bool false) = ((AV.bool (r3.v a b c d e f n x y))) by first | (simp only [r3.v, h1, h2, h3, cond_true, cond_false]; done) | (try unfold r3.v; try simp only [h1, cond_true, cond_false]; try simp only [h2, cond_true, cond_false]; try simp only [h3, cond_true, cond_false]; try rfl; done) | rfl) trivial))))))))))))))))) h
    | false =>
      have h2p := ne_of_beq_false h2
      cases h3 : r13.v1 x y a b c d e f == r14.v a b c d e f with
      | true =>
        have h3p := eq_of_beq h3
        cases h4 : r13.v0 x y a b c d e f == 0 with
        | true =>
          have h4p := eq_of_beq h4
          cases h5 : r12.v1 a b c d e f n == r14.v a b c d e f with
          | true =>
            have h5p := eq_of_beq h5
            exact Ret.of_run1 mix [(AV.bool (r3.v a b c d e f n x y))] Try.func3 rfl [.ret (AV.bool true) (r3.h0 a b c d e f n x y), .b false, .ret (AV.tup [AV.int IntKind.i64 (r12.v0 a b c d e f n), AV.int IntKind.i64 (r12.v1 a b c d e f n)]) (r3.h0 a b c d e f n x y), .ret (AV.tup [AV.int IntKind.i64 (r13.v0 x y a b c d e f), AV.int IntKind.i64 (r13.v1 x y a b c d e f)]) (r3.h0 a b c d e f n x y), .ret (AV.int IntKind.i64 (r14.v a b c d e f)) (r3.h0 a b c d e f n x y), .ret (AV.bool (r15.v x y)) (r3.h0 a b c d e f n x y), .b false, .b true, .b false, .b false, .b false, .b false, .b false, .b false, .b false, .b false, .b false, .b true, .b true, .b true, .b true] (by simp) (by simp) (kmp (by kernel_rfl) (And.intro (r11 (r3.h0 a b c d e f n x y)) (And.intro (rfl : false = false) (And.intro (r12 (a) (b) (c) (d) (e) (f) (n) (r3.h0 a b c d e f n x y)) (And.intro (r13 (x) (y) (a) (b) (c) (d) (e) (f) (r3.h0 a b c d e f n x y)) (And.intro (r14 (a) (b) (c) (d) (e) (f) (r3.h0 a b c d e f n x y)) (And.intro (r15 (x) (y) (r3.h0 a b c d e f n x y)) (And.intro (show (bnot (r15.v x y)) = false by rw [h1]; try rfl) (And.intro (show (bnot (r14.v a b c d e f == 0)) = true by rw [h2]; try rfl) (And.intro (show (bnot (r13.v1 x y a b c d e f == r14.v a b c d e f)) = false by rw [h3]; try rfl) (And.intro (show (bnot (r13.v1 x y a b c d e f == r14.v a b c d e f)) = false by rw [h3]; try rfl) (And.intro (show (bnot (r13.v1 x y a b c d e f == r14.v a b c d e f)) = false by rw [h3]; try rfl) (And.intro (show (bnot (r13.v0 x y a b c d e f == 0)) = false by rw [h4]; try rfl) (And.intro h2 (And.intro h2 (And.intro h2 (And.intro h2 (And.intro (rfl : false = false) (And.intro (show (bnot (r14.v a b c d e f == 0)) = true by rw [h2]; try rfl) (And.intro h5 (And.intro h5 (And.intro h5 (And.intro (show (AV.bool (r12.v0 a b c d e f n == 0)) = ((AV.bool (r3.v a b c d e f n x y))) by first | (simp only [r3.v, h1, h2, h3, h4, h5, cond_true, cond_false]; done) | (try unfold r3.v; try simp only [h1, cond_true, cond_false]; try simp only [h2, cond_true, cond_false]; try simp only [h3, cond_true, cond_false]; try simp only [h4, cond_true, cond_false]; try simp only [h5, cond_true, cond_false]; try rfl; done) | rfl) trivial))))))))))))))))))))))) h
          | false =>
            have h5p := ne_of_beq_false h5
            exact Ret.of_run1 mix [(AV.bool (r3.v a b c d e f n x y))] Try.func3 rfl [.ret (AV.bool true) (r3.h0 a b c d e f n x y), .b false, .ret (AV.tup [AV.int IntKind.i64 (r12.v0 a b c d e f n), AV.int IntKind.i64 (r12.v1 a b c d e f n)]) (r3.h0 a b c d e f n x y), .ret (AV.tup [AV.int IntKind.i64 (r13.v0 x y a b c d e f), AV.int IntKind.i64 (r13.v1 x y a b c d e f)]) (r3.h0 a b c d e f n x y), .ret (AV.int IntKind.i64 (r14.v a b c d e f)) (r3.h0 a b c d e f n x y), .ret (AV.bool (r15.v x y)) (r3.h0 a b c d e f n x y), .b false, .b true, .b false, .b false, .b false, .b false, .b false, .b false, .b false, .b false, .b false, .b true, .b false, .b false, .b false] (by simp) (by simp) (kmp (by kernel_rfl) (And.intro (r11 (r3.h0 a b c d e f n x y)) (And.intro (rfl : false = false) (And.intro (r12 (a) (b) (c) (d) (e) (f) (n) (r3.h0 a b c d e f n x y)) (And.intro (r13 (x) (y) (a) (b) (c) (d) (e) (f) (r3.h0 a b c d e f n x y)) (And.intro (r14 (a) (b) (c) (d) (e) (f) (r3.h0 a b c d e f n x y)) (And.intro (r15 (x) (y) (r3.h0 a b c d e f n x y)) (And.intro (show (bnot (r15.v x y)) = false by rw [h1]; try rfl) (And.intro (show (bnot (r14.v a b c d e f == 0)) = true by rw [h2]; try rfl) (And.intro (show (bnot (r13.v1 x y a b c d e f == r14.v a b c d e f)) = false by rw [h3]; try rfl) (And.intro (show (bnot (r13.v1 x y a b c d e f == r14.v a b c d e f)) = false by rw [h3]; try rfl) (And.intro (show (bnot (r13.v1 x y a b c d e f == r14.v a b c d e f)) = false by rw [h3]; try rfl) (And.intro (show (bnot (r13.v0 x y a b c d e f == 0)) = false by rw [h4]; try rfl) (And.intro h2 (And.intro h2 (And.intro h2 (And.intro h2 (And.intro (rfl : false = false) (And.intro (show (bnot (r14.v a b c d e f == 0)) = true by rw [h2]; try rfl) (And.intro h5 (And.intro h5 (And.intro h5 (And.intro (show (AV.bool false) = ((AV.bool (r3.v a b c d e f n x y))) by first | (simp only [r3.v, h1, h2, h3, h4, h5, cond_true, cond_false]; done) | (try unfold r3.v; try simp only [h1, cond_true, cond_false]; try simp only [h2, cond_true, cond_false]; try simp only [h3, cond_true, cond_false]; try simp only [h4, cond_true, cond_false]; try simp only [h5, cond_true, cond_false]; try rfl; done) | rfl) trivial))))))))))))))))))))))) h
        | false =>
          have h4p := ne_of_beq_false h4
          exact Ret.of_run1 mix [(AV.bool (r3.v a b c d e f n x y))] Try.func3 rfl [.ret (AV.bool true) (r3.h0 a b c d e f n x y), .b false, .ret (AV.tup [AV.int IntKind.i64 (r12.v0 a b c d e f n), AV.int IntKind.i64 (r12.v1 a b c d e f n)]) (r3.h0 a b c d e f n x y), .ret (AV.tup [AV.int IntKind.i64 (r13.v0 x y a b c d e f), AV.int IntKind.i64 (r13.v1 x y a b c d e f)]) (r3.h0 a b c d e f n x y), .ret (AV.int IntKind.i64 (r14.v a b c d e f)) (r3.h0 a b c d e f n x y), .ret (AV.bool (r15.v x y)) (r3.h0 a b c d e f n x y), .b false, .b true, .b false, .b false, .b false, .b true] (by simp) (by simp) (kmp (by kernel_rfl) (And.intro (r11 (r3.h0 a b c d e f n x y)) (And.intro (rfl : false = false) (And.intro (r12 (a) (b) (c) (d) (e) (f) (n) (r3.h0 a b c d e f n x y)) (And.intro (r13 (x) (y) (a) (b) (c) (d) (e) (f) (r3.h0 a b c d e f n x y)) (And.intro (r14 (a) (b) (c) (d) (e) (f) (r3.h0 a b c d e f n x y)) (And.intro (r15 (x) (y) (r3.h0 a b c d e f n x y)) (And.intro (show (bnot (r15.v x y)) = false by rw [h1]; try rfl) (And.intro (show (bnot (r14.v a b c d e f == 0)) = true by rw [h2]; try rfl) (And.intro (show (bnot (r13.v1 x y a b c d e f == r14.v a b c d e f)) = false by rw [h3]; try rfl) (And.intro (show (bnot (r13.v1 x y a b c d e f == r14.v a b c d e f)) = false by rw [h3]; try rfl) (And.intro (show (bnot (r13.v1 x y a b c d e f == r14.v a b c d e f)) = false by rw [h3]; try rfl) (And.intro (show (bnot (r13.v0 x y a b c d e f == 0)) = true by rw [h4]; try rfl) (And.intro (show (AV.bool false) = ((AV.bool (r3.v a b c d e f n x y))) by first | (simp only [r3.v, h1, h2, h3, h4, cond_true, cond_false]; done) | (try unfold r3.v; try simp only [h1, cond_true, cond_false]; try simp only [h2, cond_true, cond_false]; try simp only [h3, cond_true, cond_false]; try simp only [h4, cond_true, cond_false]; try rfl; done) | rfl) trivial)))))))))))))) h
      | false =>
        have h3p := ne_of_beq_false h3
        exact Ret.of_run1 mix [(AV.bool (r3.v a b c d e f n x y))] Try.func3 rfl [.ret (AV.bool true) (r3.h0 a b c d e f n x y), .b false, .ret (AV.tup [AV.int IntKind.i64 (r12.v0 a b c d e f n), AV.int IntKind.i64 (r12.v1 a b c d e f n)]) (r3.h0 a b c d e f n x y), .ret (AV.tup [AV.int IntKind.i64 (r13.v0 x y a b c d e f), AV.int IntKind.i64 (r13.v1 x y a b c d e f)]) (r3.h0 a b c d e f n x y), .ret (AV.int IntKind.i64 (r14.v a b c d e f)) (r3.h0 a b c d e f n x y), .ret (AV.bool (r15.v x y)) (r3.h0 a b c d e f n x y), .b false, .b true, .b true, .b true, .b true, .b true] (by simp) (by simp) (kmp (by kernel_rfl) (And.intro (r11 (r3.h0 a b c d e f n x y)) (And.intro (rfl : false = false) (And.intro (r12 (a) (b) (c) (d) (e) (f) (n) (r3.h0 a b c d e f n x y)) (And.intro (r13 (x) (y) (a) (b) (c) (d) (e) (f) (r3.h0 a b c d e f n x y)) (And.intro (r14 (a) (b) (c) (d) (e) (f) (r3.h0 a b c d e f n x y)) (And.intro (r15 (x) (y) (r3.h0 a b c d e f n x y)) (And.intro (show (bnot (r15.v x y)) = false by rw [h1]; try rfl) (And.intro (show (bnot (r14.v a b c d e f == 0)) = true by rw [h2]; try rfl) (And.intro (show (bnot (r13.v1 x y a b c d e f == r14.v a b c d e f)) = true by rw [h3]; try rfl) (And.intro (show (bnot (r13.v1 x y a b c d e f == r14.v a b c d e f)) = true by rw [h3]; try rfl) (And.intro (show (bnot (r13.v1 x y a b c d e f == r14.v a b c d e f)) = true by rw [h3]; try rfl) (And.intro (rfl : true = true) (And.intro (show (AV.bool false) = ((AV.bool (r3.v a b c d e f n x y))) by first | (simp only [r3.v, h1, h2, h3, cond_true, cond_false]; done) | (try unfold r3.v; try simp only [h1, cond_true, cond_false]; try simp only [h2, cond_true, cond_false]; try simp only [h3, cond_true, cond_false]; try rfl; done) | rfl) trivial)))))))))))))) h
  | false =>
    cases h2 : r13.v1 x y a b c d e f == 6 with
    | true =>
      have h2p := eq_of_beq h2
      cases h3 : r13.v0 x y a b c d e f == 0 with
      | true =>
        have h3p := eq_of_beq h3
        cases h4 : r14.v a b c d e f == 0 with
        | true =>
          have h4p := eq_of_beq h4
          cases h5 : r17.v n with
          | true =>
            cases h6 : r12.v1 a b c d e f n == 0 with
            | true =>
              have h6p := eq_of_beq h6
              exact Ret.of_run1 mix [(AV.bool (r3.v a b c d e f n x y))] Try.func3 rfl [.ret (AV.bool true) (r3.h0 a b c d e f n x y), .b false, .ret (AV.tup [AV.int IntKind.i64 (r12.v0 a b c d e f n), AV.int IntKind.i64 (r12.v1 a b c d e f n)]) (r3.h0 a b c d e f n x y), .ret (AV.tup [AV.int IntKind.i64 (r13.v0 x y a b c d e f), AV.int IntKind.i64 (r13.v1 x y a b c d e f)]) (r3.h0 a b c d e f n x y), .ret (AV.int IntKind.i64 (r14.v a b c d e f)) (r3.h0 a b c d e f n x y), .ret (AV.bool (r15.v x y)) (r3.h0 a b c d e f n x y), .b true, .b false, .b false, .b false, .b false, .b true, .b true, .ret (AV.bool (r17.v n)) (r3.h0 a b c d e f n x y), .b true, .b true, .b false, .b false, .b true, .b true, .b true, .b true, .ret (AV.int IntKind.i64 (r18.v a b c d e f n)) (r3.h0 a b c d e f n x y), .b true, .b true] (by simp) (by simp) (kmp (by kernel_rfl) (And.intro (r11 (r3.h0 a b c d e f n x y)) (And.intro (rfl : false = false) (And.intro (r12 (a) (b) (c) (d) (e) (f) (n) (r3.h0 a b c d e f n x y)) (And.intro (r13 (x) (y) (a) (b) (c) (d) (e) (f) (r3.h0 a b c d e f n x y)) (And.intro (r14 (a) (b) (c) (d) (e) (f) (r3.h0 a b c d e f n x y)) (And.intro (r15 (x) (y) (r3.h0 a b c d e f n x y)) (And.intro (show (bnot (r15.v x y)) = true by rw [h1]; try rfl) (And.intro (show (bnot (r13.v1 x y a b c d e f == 6)) = false by rw [h2]; try rfl) (And.intro (show (bnot (r13.v1 x y a b c d e f == 6)) = false by rw [h2]; try rfl) (And.intro (show (bnot (r13.v1 x y a b c d e f == 6)) = false by rw [h2]; try rfl) (And.intro (show (bnot (r13.v0 x y a b c d e f == 0)) = false by rw [h3]; try rfl) (And.intro h4 (And.intro h4 (And.intro (r17 (n) (r3.h0 a b c d e f n x y)) (And.intro h4 (And.intro h4 (And.intro (show (bnot (r17.v n)) = false by rw [h5]; try rfl) (And.intro (show (bnot (r14.v a b c d e f == 0)) = false by rw [h4]; try rfl) (And.intro h6 (And.intro h6 (And.intro h6 (And.intro h6 (And.intro (r18 (a) (b) (c) (d) (e) (f) (n) (r3.h0 a b c d e f n x y)) (And.intro h6 (And.intro h6 (And.intro (show (AV.bool (r12.v0 a b c d e f n == r18.v a b c d e f n)) = ((AV.bool (r3.v a b c d e f n x y))) by first | (simp only [r3.v, h1, h2, h3, h4, h5, h6, cond_true, cond_false]; done) | (try unfold r3.v; try simp only [h1, cond_true, cond_false]; try simp only [h2, cond_true, cond_false]; try simp only [h3, cond_true, cond_false]; try simp only [h4, cond_true, cond_false]; try simp only [h5, cond_true, cond_false]; try simp only [h6, cond_true, cond_false]; try rfl; done) | rfl) trivial))))))))))))))))))))))))))) h
            | false =>
              have h6p := ne_of_beq_false h6
              exact Ret.of_run1 mix [(AV.bool (r3.v a b c d e f n x y))] Try.func3 rfl [.ret (AV.bool true) (r3.h0 a b c d e f n x y), .b false, .ret (AV.tup [AV.int IntKind.i64 (r12.v0 a b c d e f n), AV.int IntKind.i64 (r12.v1 a b c d e f n)]) (r3.h0 a b c d e f n x y), .ret (AV.tup [AV.int IntKind.i64 (r13.v0 x y a b c d e f), AV.int IntKind.i64 (r13.v1 x y a b c d e f)]) (r3.h0 a b c d e f n x y), .ret (AV.int IntKind.i64 (r14.v a b c d e f)) (r3.h0 a b c d e f n x y), .ret (AV.bool (r15.v x y)) (r3.h0 a b c d e f n x y), .b true, .b false, .b false, .b false, .b false, .b true, .b true, .ret (AV.bool (r17.v n)) (r3.h0 a b c d e f n x y), .b true, .b true, .b false, .b false, .b false, .b false, .b false, .b false, .b false, .b false] (by simp) (by simp) (kmp (by kernel_rfl) (And.intro (r11 (r3.h0 a b c d e f n x y)) (And.intro (rfl : false = false) (And.intro (r12 (a) (b) (c) (d) (e) (f) (n) (r3.h0 a b c d e f n x y)) (And.intro (r13 (x) (y) (a) (b) (c) (d) (e) (f) (r3.h0 a b c d e f n x y)) (And.intro (r14 (a) (b) (c) (d) (e) (f) (r3.h0 a b c d e f n x y)) (And.intro (r15 (x) (y) (r3.h0 a b c d e f n x y)) (And.intro (show (bnot (r15.v x y)) = true by rw [h1]; try rfl) (And.intro (show (bnot (r13.v1 x y a b c d e f == 6)) = false by rw [h2]; try rfl) (And.intro (show (bnot (r13.v1 x y a b c d e f == 6)) = false by rw [h2]; try rfl) (And.intro (show (bnot (r13.v1 x y a b c d e f == 6)) = false by rw [h2]; try rfl) (And.intro (show (bnot (r13.v0 x y a b c d e f == 0)) = false by rw [h3]; try rfl) (And.intro h4 (And.intro h4 (And.intro (r17 (n) (r3.h0 a b c d e f n x y)) (And.intro h4 (And.intro h4 (And.intro (show (bnot (r17.v n)) = false by rw [h5]; try rfl) (And.intro (show (bnot (r14.v a b c d e f == 0)) = false by rw [h4]; try rfl) (And.intro h6 (And.intro h6 (And.intro h6 (And.intro h6 (And.intro h6 (And.intro h6 (And.intro (show (AV.bool false) = ((AV.bool (r3.v a b c d e f n x y))) by first | (simp only [r3.v, h1, h2, h3, h4, h5, h6, cond_true, cond_false]; done) | (try unfold r3.v; try simp only [h1, cond_true, cond_false]; try simp only [h2, cond_true, cond_false]; try simp only [h3, cond_true, cond_false]; try simp only [h4, cond_true, cond_false]; try simp only [h5, cond_true, cond_false]; try simp only [h6, cond_true, cond_false]; try rfl; done) | rfl) trivial)))))))))))))))))))))))))) h
          | false =>
            cases h6 : r12.v1 a b c d e f n == 6 with
            | true =>
              have h6p := eq_of_beq h6
              exact Ret.of_run1 mix [(AV.bool (r3.v a b c d e f n x y))] Try.func3 rfl [.ret (AV.bool true) (r3.h0 a b c d e f n x y), .b false, .ret (AV.tup [AV.int IntKind.i64 (r12.v0 a b c d e f n), AV.int IntKind.i64 (r12.v1 a b c d e f n)]) (r3.h0 a b c d e f n x y), .ret (AV.tup [AV.int IntKind.i64 (r13.v0 x y a b c d e f), AV.int IntKind.i64 (r13.v1 x y a b c d e f)]) (r3.h0 a b c d e f n x y), .ret (AV.int IntKind.i64 (r14.v a b c d e f)) (r3.h0 a b c d e f n x y), .ret (AV.bool (r15.v x y)) (r3.h0 a b c d e f n x y), .b true, .b false, .b false, .b false, .b false, .b true, .b true, .ret (AV.bool (r17.v n)) (r3.h0 a b c d e f n x y), .b true, .b true, .b true, .b true, .b true, .b true, .b true] (by simp) (by simp) (kmp (by kernel_rfl) (And.intro (r11 (r3.h0 a b c d e f n x y)) (And.intro (rfl : false = false) (And.intro (r12 (a) (b) (c) (d) (e) (f) (n) (r3.h0 a b c d e f n x y)) (And.intro (r13 (x) (y) (a) (b) (c) (d) (e) (f) (r3.h0 a b c d e f n x y)) (And.intro (r14 (a) (b) (c) (d) (e) (f) (r3.h0 a b c d e f n x y)) (And.intro (r15 (x) (y) (r3.h0 a b c d e f n x y)) (And.intro (show (bnot (r15.v x y)) = true by rw [h1]; try rfl) (And.intro (show (bnot (r13.v1 x y a b c d e f == 6)) = false by rw [h2]; try rfl) (And.intro (show (bnot (r13.v1 x y a b c d e f == 6)) = false by rw [h2]; try rfl) (And.intro (show (bnot (r13.v1 x y a b c d e f == 6)) = false by rw [h2]; try rfl) (And.intro (show (bnot (r13.v0 x y a b c d e f == 0)) = false by rw [h3]; try rfl) (And.intro h4 (And.intro h4 (And.intro (r17 (n) (r3.h0 a b c d e f n x y)) (And.intro h4 (And.intro h4 (And.intro (show (bnot (r17.v n)) = true by rw [h5]; try rfl) (And.intro (rfl : true = true) (And.intro h6 (And.intro h6 (And.intro h6 (And.intro (show (AV.bool (r12.v0 a b c d e f n == 0)) = ((AV.bool (r3.v a b c d e f n x y))) by first | (simp only [r3.v, h1, h2, h3, h4, h5, h6, cond_true, cond_false]; done) | (try unfold r3.v; try simp only [h1, cond_true, cond_false]; try simp only [h2, cond_true, cond_false]; try simp only [h3, cond_true, cond_false]; try simp only [h4, cond_true, cond_false]; try simp only [h5, cond_true, cond_false]; try simp only [h6, cond_true, cond_false]; try rfl; done) | rfl) trivial))))))))))))))))))))))) h
            | false =>
              have h6p := ne_of_beq_false h6
              exact Ret.of_run1 mix [(AV.bool (r3.v a b c d e f n x y))] Try.func3 rfl [.ret (AV.bool true) (r3.h0 a b c d e f n x y), .b false, .ret (AV.tup [AV.int IntKind.i64 (r12.v0 a b c d e f n), AV.int IntKind.i64 (r12.v1 a b c d e f n)]) (r3.h0 a b c d e f n x y), .ret (AV.tup [AV.int IntKind.i64 (r13.v0 x y a b c d e f), AV.int IntKind.i64 (r13.v1 x y a b c d e f)]) (r3.h0 a b c d e f n x y), .ret (AV.int IntKind.i64 (r14.v a b c d e f)) (r3.h0 a b c d e f n x y), .ret (AV.bool (r15.v x y)) (r3.h0 a b c d e f n x y), .b true, .b false, .b false, .b false, .b false, .b true, .b true, .ret (AV.bool (r17.v n)) (r3.h0 a b c d e f n x y), .b true, .b true, .b true, .b true, .b false, .b false, .b false] (by simp) (by simp) (kmp (by kernel_rfl) (And.intro (r11 (r3.h0 a b c d e f n x y)) (And.intro (rfl : false = false) (And.intro (r12 (a) (b) (c) (d) (e) (f) (n) (r3.h0 a b c d e f n x y)) (And.intro (r13 (x) (y) (a) (b) (c) (d) (e) (f) (r3.h0 a b c d e f n x y)) (And.intro (r14 (a) (b) (c) (d) (e) (f) (r3.h0 a b c d e f n x y)) (And.intro (r15 (x) (y) (r3.h0 a b c d e f n x y)) (And.intro (show (bnot (r15.v x y)) = true by rw [h1]; try rfl) (And.intro (show (bnot (r13.v1 x y a b c d e f == 6)) = false by rw [h2]; try rfl) (And.intro (show (bnot (r13.v1 x y a b c d e f == 6)) = false by rw [h2]; try rfl) (And.intro (show (bnot (r13.v1 x y a b c d e f == 6)) = false by rw [h2]; try rfl) (And.intro (show (bnot (r13.v0 x y a b c d e f == 0)) = false by rw [h3]; try rfl) (And.intro h4 (And.intro h4 (And.intro (r17 (n) (r3.h0 a b c d e f n x y)) (And.intro h4 (And.intro h4 (And.intro (show (bnot (r17.v n)) = true by rw [h5]; try rfl) (And.intro (rfl : true = true) (And.intro h6 (And.intro h6 (And.intro h6 (And.intro (show (AV.bool false) = ((AV.bool (r3.v a b c d e f n x y))) by first | (simp only [r3.v, h1, h2, h3, h4, h5, h6, cond_true, cond_false]; done) | (try unfold r3.v; try simp only [h1, cond_true, cond_false]; try simp only [h2, cond_true, cond_false]; try simp only [h3, cond_true, cond_false]; try simp only [h4, cond_true, cond_false]; try simp only [h5, cond_true, cond_false]; try simp only [h6, cond_true, cond_false]; try rfl; done) | rfl) trivial))))))))))))))))))))))) h
        | false =>
          have h4p := ne_of_beq_false h4
          cases h5 : r12.v1 a b c d e f n == r14.v a b c d e f with
          | true =>
            have h5p := eq_of_beq h5
            exact Ret.of_run1 mix [(AV.bool (r3.v a b c d e f n x y))] Try.func3 rfl [.ret (AV.bool true) (r3.h0 a b c d e f n x y), .b false, .ret (AV.tup [AV.int IntKind.i64 (r12.v0 a b c d e f n), AV.int IntKind.i64 (r12.v1 a b c d e f n)]) (r3.h0 a b c d e f n x y), .ret (AV.tup [AV.int IntKind.i64 (r13.v0 x y a b c d e f), AV.int IntKind.i64 (r13.v1 x y a b c d e f)]) (r3.h0 a b c d e f n x y), .ret (AV.int IntKind.i64 (r14.v a b c d e f)) (r3.h0 a b c d e f n x y), .ret (AV.bool (r15.v x y)) (r3.h0 a b c d e f n x y), .b true, .b false, .b false, .b false, .b false, .b false, .b false, .b false, .b false, .b false, .b true, .b true, .b true, .b true] (by simp) (by simp) (kmp (by kernel_rfl) (And.intro (r11 (r3.h0 a b c d e f n x y)) (And.intro (rfl : false = false) (And.intro (r12 (a) (b) (c) (d) (e) (f) (n) (r3.h0 a b c d e f n x y)) (And.intro (r13 (x) (y) (a) (b) (c) (d) (e) (f) (r3.h0 a b c d e f n x y)) (And.intro (r14 (a) (b) (c) (d) (e) (f) (r3.h0 a b c d e f n x y)) (And.intro (r15 (x) (y) (r3.h0 a b c d e f n x y)) (And.intro (show (bnot (r15.v x y)) = true by rw [h1]; try rfl) (And.intro (show (bnot (r13.v1 x y a b c d e f == 6)) = false by rw [h2]; try rfl) (And.intro (show (bnot (r13.v1 x y a b c d e f == 6)) = false by rw [h2]; try rfl) (And.intro (show (bnot (r13.v1 x y a b c d e f == 6)) = false by rw [h2]; try rfl) (And.intro (show (bnot (r13.v0 x y a b c d e f == 0)) = false by rw [h3]; try rfl) (And.intro h4 (And.intro h4 (And.intro h4 (And.intro h4 (And.intro (rfl : false = false) (And.intro (show (bnot (r14.v a b c d e f == 0)) = true by rw [h4]; try rfl) (And.intro h5 (And.intro h5 (And.intro h5 (And.intro (show (AV.bool (r12.v0 a b c d e f n == 0)) = ((AV.bool (r3.v a b c d e f n x y))) by first | (simp only [r3.v, h1, h2, h3, h4, h5, cond_true, cond_false]; done) | (try unfold r3.v; try simp only [h1, cond_true, cond_false]; try simp only [h2, cond_true, cond_false]; try simp only [h3, cond_true, cond_false]; try simp only [h4, cond_true, cond_false]; try simp only [h5, cond_true, cond_false]; try rfl; done) | rfl) trivial)))))))))))))))))))))) h
          | false =>
            have h5p := ne_of_beq_false h5
            exact Ret.of_run1 mix [(AV.bool (r3.v a b c d e f n x y))] Try.func3 rfl [.ret (AV.bool true) (r3.h0 a b c d e f n x y), .b false, .ret (AV.tup [AV.int IntKind.i64 (r12.v0 a b c d e f n), AV.int IntKind.i64 (r12.v1 a b c d e f n)]) (r3.h0 a b c d e f n x y), .ret (AV.tup [AV.int IntKind.i64 (r13.v0 x y a b c d e f), AV.int IntKind.i64 (r13.v1 x y a b c d e f)]) (r3.h0 a b c d e f n x y), .ret (AV.int IntKind.i64 (r14.v a b c d e f)) (r3.h0 a b c d e f n x y), .ret (AV.bool (r15.v x y)) (r3.h0 a b c d e f n x y), .b true, .b false, .b false, .b false, .b false, .b false, .b false, .b false, .b false, .b false, .b true, .b false, .b false, .b false] (by simp) (by simp) (kmp (by kernel_rfl) (And.intro (r11 (r3.h0 a b c d e f n x y)) (And.intro (rfl : false = false) (And.intro (r12 (a) (b) (c) (d) (e) (f) (n) (r3.h0 a b c d e f n x y)) (And.intro (r13 (x) (y) (a) (b) (c) (d) (e) (f) (r3.h0 a b c d e f n x y)) (And.intro (r14 (a) (b) (c) (d) (e) (f) (r3.h0 a b c d e f n x y)) (And.intro (r15 (x) (y) (r3.h0 a b c d e f n x y)) (And.intro (show (bnot (r15.v x y)) = true by rw [h1]; try rfl) (And.intro (show (bnot (r13.v1 x y a b c d e f == 6)) = false by rw [h2]; try rfl) (And.intro (show (bnot (r13.v1 x y a b c d e f == 6)) = false by rw [h2]; try rfl) (And.intro (show (bnot (r13.v1 x y a b c d e f == 6)) = false by rw [h2]; try rfl) (And.intro (show (bnot (r13.v0 x y a b c d e f == 0)) = false by rw [h3]; try rfl) (And.intro h4 (And.intro h4 (And.intro h4 (And.intro h4 (And.intro (rfl : false = false) (And.intro (show (bnot (r14.v a b c d e f == 0)) = true by rw [h4]; try rfl) (And.intro h5 (And.intro h5 (And.intro h5 (And.intro (show (AV.bool false) = ((AV.bool (r3.v a b c d e f n x y))) by first | (simp only [r3.v, h1, h2, h3, h4, h5, cond_true, cond_false]; done) | (try unfold r3.v; try simp only [h1, cond_true, cond_false]; try simp only [h2, cond_true, cond_false]; try simp only [h3, cond_true, cond_false]; try simp only [h4, cond_true, cond_false]; try simp only [h5, cond_true, cond_false]; try rfl; done) | rfl) trivial)))))))))))))))))))))) h
      | false =>
        have h3p := ne_of_beq_false h3
        exact Ret.of_run1 mix [(AV.bool (r3.v a b c d e f n x y))] Try.func3 rfl [.ret (AV.bool true) (r3.h0 a b c d e f n x y), .b false, .ret (AV.tup [AV.int IntKind.i64 (r12.v0 a b c d e f n), AV.int IntKind.i64 (r12.v1 a b c d e f n)]) (r3.h0 a b c d e f n x y), .ret (AV.tup [AV.int IntKind.i64 (r13.v0 x y a b c d e f), AV.int IntKind.i64 (r13.v1 x y a b c d e f)]) (r3.h0 a b c d e f n x y), .ret (AV.int IntKind.i64 (r14.v a b c d e f)) (r3.h0 a b c d e f n x y), .ret (AV.bool (r15.v x y)) (r3.h0 a b c d e f n x y), .b true, .b false, .b false, .b false, .b true] (by simp) (by simp) (kmp (by kernel_rfl) (And.intro (r11 (r3.h0 a b c d e f n x y)) (And.intro (rfl : false = false) (And.intro (r12 (a) (b) (c) (d) (e) (f) (n) (r3.h0 a b c d e f n x y)) (And.intro (r13 (x) (y) (a) (b) (c) (d) (e) (f) (r3.h0 a b c d e f n x y)) (And.intro (r14 (a) (b) (c) (d) (e) (f) (r3.h0 a b c d e f n x y)) (And.intro (r15 (x) (y) (r3.h0 a b c d e f n x y)) (And.intro (show (bnot (r15.v x y)) = true by rw [h1]; try rfl) (And.intro (show (bnot (r13.v1 x y a b c d e f == 6)) = false by rw [h2]; try rfl) (And.intro (show (bnot (r13.v1 x y a b c d e f == 6)) = false by rw [h2]; try rfl) (And.intro (show (bnot (r13.v1 x y a b c d e f == 6)) = false by rw [h2]; try rfl) (And.intro (show (bnot (r13.v0 x y a b c d e f == 0)) = true by rw [h3]; try rfl) (And.intro (show (AV.bool false) = ((AV.bool (r3.v a b c d e f n x y))) by first | (simp only [r3.v, h1, h2, h3, cond_true, cond_false]; done) | (try unfold r3.v; try simp only [h1, cond_true, cond_false]; try simp only [h2, cond_true, cond_false]; try simp only [h3, cond_true, cond_false]; try rfl; done) | rfl) trivial))))))))))))) h
    | false =>
      have h2p := ne_of_beq_false h2
      exact Ret.of_run1 mix [(AV.bool (r3.v a b c d e f n x y))] Try.func3 rfl [.ret (AV.bool true) (r3.h0 a b c d e f n x y), .b false, .ret (AV.tup [AV.int IntKind.i64 (r12.v0 a b c d e f n), AV.int IntKind.i64 (r12.v1 a b c d e f n)]) (r3.h0 a b c d e f n x y), .ret (AV.tup [AV.int IntKind.i64 (r13.v0 x y a b c d e f), AV.int IntKind.i64 (r13.v1 x y a b c d e f)]) (r3.h0 a b c d e f n x y), .ret (AV.int IntKind.i64 (r14.v a b c d e f)) (r3.h0 a b c d e f n x y), .ret (AV.bool (r15.v x y)) (r3.h0 a b c d e f n x y), .b true, .b true, .b true, .b true, .b true] (by simp) (by simp) (kmp (by kernel_rfl) (And.intro (r11 (r3.h0 a b c d e f n x y)) (And.intro (rfl : false = false) (And.intro (r12 (a) (b) (c) (d) (e) (f) (n) (r3.h0 a b c d e f n x y)) (And.intro (r13 (x) (y) (a) (b) (c) (d) (e) (f) (r3.h0 a b c d e f n x y)) (And.intro (r14 (a) (b) (c) (d) (e) (f) (r3.h0 a b c d e f n x y)) (And.intro (r15 (x) (y) (r3.h0 a b c d e f n x y)) (And.intro (show (bnot (r15.v x y)) = true by rw [h1]; try rfl) (And.intro (show (bnot (r13.v1 x y a b c d e f == 6)) = true by rw [h2]; try rfl) (And.intro (show (bnot (r13.v1 x y a b c d e f == 6)) = true by rw [h2]; try rfl) (And.intro (show (bnot (r13.v1 x y a b c d e f == 6)) = true by rw [h2]; try rfl) (And.intro (rfl : true = true) (And.intro (show (AV.bool false) = ((AV.bool (r3.v a b c d e f n x y))) by first | (simp only [r3.v, h1, h2, cond_true, cond_false]; done) | (try unfold r3.v; try simp only [h1, cond_true, cond_false]; try simp only [h2, cond_true, cond_false]; try rfl; done) | rfl) trivial))))))))))))) h

end Go.Proofs.Ytgmppoappaolkaa

/- the law of halves, walked. -/
open Go
namespace Go.Proofs.Ytgmppoappaolkaa
set_option linter.unusedSimpArgs false
set_option linter.unusedVariables false
set_option maxHeartbeats 0
set_option maxRecDepth 100000
noncomputable def r6.v (a : Int) (b : Int) (c : Int) (d : Int) (e : Int) (f : Int) (at_ : Int) (n : Int) : Bool := (bif decide (at_ ≤ c) then true else (bif decide (at_ ≥ f) then true else (bif r12.v1 a b c d e f n == 0 then (bif r12.v1 a b c d e at_ n == 0 then (bif r12.v1 a b at_ d e f n == 0 then (bif decide (r12.v0 a b c d e at_ n ≤ r12.v0 a b c d e f n) then (bif decide (r12.v0 a b at_ d e f n ≤ r12.v0 a b c d e f n) then (bif decide (r12.v0 a b c d e at_ n ≥ 0) then (bif decide (r12.v0 a b at_ d e f n ≥ 0) then (bif IntKind.i64.wrap (r12.v0 a b c d e at_ n + r12.v0 a b at_ d e f n) == r12.v0 a b c d e f n then true else IntKind.i64.wrap (r12.v0 a b c d e at_ n + r12.v0 a b at_ d e f n) == IntKind.i64.wrap (r12.v0 a b c d e f n - 1)) else false) else false) else false) else false) else false) else false) else r12.v0 a b c d e f n == 0)))
noncomputable abbrev r6.h0 (a : Int) (b : Int) (c : Int) (d : Int) (e : Int) (f : Int) (at_ : Int) (n : Int) : AHeap := ([AObj.var (AV.agg [AV.int IntKind.i64 a, AV.int IntKind.i64 b, AV.int IntKind.i64 c, AV.int IntKind.i64 d, AV.int IntKind.i64 e, AV.int IntKind.i64 f])])
noncomputable abbrev r6.h1 (a : Int) (b : Int) (c : Int) (d : Int) (e : Int) (f : Int) (at_ : Int) (n : Int) : AHeap := ([AObj.var (AV.agg [AV.int IntKind.i64 a, AV.int IntKind.i64 b, AV.int IntKind.i64 c, AV.int IntKind.i64 d, AV.int IntKind.i64 e, AV.int IntKind.i64 f]), AObj.var (AV.agg [AV.int IntKind.i64 a, AV.int IntKind.i64 b, AV.int IntKind.i64 c, AV.int IntKind.i64 d, AV.int IntKind.i64 e, AV.int IntKind.i64 at_]), AObj.var (AV.agg [AV.int IntKind.i64 a, AV.int IntKind.i64 b, AV.int IntKind.i64 at_, AV.int IntKind.i64 d, AV.int IntKind.i64 e, AV.int IntKind.i64 f])])
theorem r6 (a : Int) (b : Int) (c : Int) (d : Int) (e : Int) (f : Int) (at_ : Int) (n : Int) (h : AHeap) : Ret Try.prog 6 ([bx a b c d e f, AV.int IntKind.i64 at_, AV.int IntKind.i64 n]) h (AV.bool (r6.v a b c d e f at_ n)) h := by
  cases h1 : decide (at_ ≤ c) with
  | true =>
    have h1p := of_decide_eq_true h1
    exact Ret.of_run1 mix [(AV.bool (r6.v a b c d e f at_ n))] Try.func6 rfl [.ret (AV.bool true) (r6.h0 a b c d e f at_ n), .b false, .b true, .b true, .b true, .b true, .b true, .b true, .b true] (by simp) (by simp) (kmp (by kernel_rfl) (And.intro (r11 (r6.h0 a b c d e f at_ n)) (And.intro (rfl : false = false) (And.intro h1 (And.intro h1 (And.intro h1 (And.intro h1 (And.intro h1 (And.intro h1 (And.intro (rfl : true = true) (And.intro (show (AV.bool true) = ((AV.bool (r6.v a b c d e f at_ n))) by first | (simp only [r6.v, h1, cond_true, cond_false]; done) | (try unfold r6.v; try simp only [h1, cond_true, cond_false]; try rfl; done) | rfl) trivial))))))))))) h
  | false =>
    have h1p := of_decide_eq_false h1
    cases h2 : decide (at_ ≥ f) with
    | true =>
      have h2p := of_decide_eq_true h2
      exact Ret.of_run1 mix [(AV.bool (r6.v a b c d e f at_ n))] Try.func6 rfl [.ret (AV.bool true) (r6.h0 a b c d e f at_ n), .b false, .b false, .b false, .b false, .b false, .b false, .b false, .b true] (by simp) (by simp) (kmp (by kernel_rfl) (And.intro (r11 (r6.h0 a b c d e f at_ n)) (And.intro (rfl : false = false) (And.intro h1 (And.intro h1 (And.intro h1 (And.intro h1 (And.intro h1 (And.intro h1 (And.intro h2 (And.intro (show (AV.bool true) = ((AV.bool (r6.v a b c d e f at_ n))) by first | (simp only [r6.v, h1, h2, cond_true, cond_false]; done) | (try unfold r6.v; try simp only [h1, cond_true, cond_false]; try simp only [h2, cond_true, cond_false]; try rfl; done) | rfl) trivial))))))))))) h
    | false =>
      have h2p := of_decide_eq_false h2
      cases h3 : r12.v1 a b c d e f n == 0 with
      | true =>
        have h3p := eq_of_beq h3
        cases h4 : r12.v1 a b c d e at_ n == 0 with
        | true =>
          have h4p := eq_of_beq h4
          cases h5 : r12.v1 a b at_ d e f n == 0 with
          | true =>
            have h5p := eq_of_beq h5
            cases h6 : decide (r12.v0 a b c d e at_ n ≤ r12.v0 a b c d e f n) with
            | true =>
              have h6p := of_decide_eq_true h6
              cases h7 : decide (r12.v0 a b at_ d e f n ≤ r12.v0 a b c d e f n) with
              | true =>
                have h7p := of_decide_eq_true h7
                cases h8 : decide (r12.v0 a b c d e at_ n ≥ 0) with
                | true =>
                  have h8p := of_decide_eq_true h8
                  cases h9 : decide (r12.v0 a b at_ d e f n ≥ 0) with
                  | true =>
                    have h9p := of_decide_eq_true h9
                    cases h10 : IntKind.i64.wrap (r12.v0 a b c d e at_ n + r12.v0 a b at_ d e f n) == r12.v0 a b c d e f n with
                    | true =>
                      have h10p := eq_of_beq h10
                      exact Ret.of_run1 mix [(AV.bool (r6.v a b c d e f at_ n))] Try.func6 rfl [.ret (AV.bool true) (r6.h0 a b c d e f at_ n), .b false, .b false, .b false, .b false, .b false, .b false, .b false, .b false, .ret (AV.tup [AV.int IntKind.i64 (r12.v0 a b c d e f n), AV.int IntKind.i64 (r12.v1 a b c d e f n)]) (r6.h1 a b c d e f at_ n), .ret (AV.tup [AV.int IntKind.i64 (r12.v0 a b c d e at_ n), AV.int IntKind.i64 (r12.v1 a b c d e at_ n)]) (r6.h1 a b c d e f at_ n), .ret (AV.tup [AV.int IntKind.i64 (r12.v0 a b at_ d e f n), AV.int IntKind.i64 (r12.v1 a b at_ d e f n)]) (r6.h1 a b c d e f at_ n), .b false, .b true, .b true, .b true, .b true, .b true, .b true, .b true, .b true, .b true, .b true, .b true, .b true, .b true, .b true, .b true, .b true, .b true, .b true, .b true, .b true, .b true, .b true, .b true, .b true, .b true, .b true, .b true, .b true, .b true, .b true, .b true, .b true] (by simp) (by simp) (kmp (by kernel_rfl) (And.intro (r11 (r6.h0 a b c d e f at_ n)) (And.intro (rfl : false = false) (And.intro h1 (And.intro h1 (And.intro h1 (And.intro h1 (And.intro h1 (And.intro h1 (And.intro h2 (And.intro (r12 (a) (b) (c) (d) (e) (f) (n) (r6.h1 a b c d e f at_ n)) (And.intro (r12 (a) (b) (c) (d) (e) (at_) (n) (r6.h1 a b c d e f at_ n)) (And.intro (r12 (a) (b) (at_) (d) (e) (f) (n) (r6.h1 a b c d e f at_ n)) (And.intro (show (bnot (r12.v1 a b c d e f n == 0)) = false by rw [h3]; try rfl) (And.intro h4 (And.intro h4 (And.intro h4 (And.intro h5 (And.intro h5 (And.intro h5 (And.intro h5 (And.intro h6 (And.intro h6 (And.intro h6 (And.intro h6 (And.intro h7 (And.intro h7 (And.intro h7 (And.intro h8 (And.intro h8 (And.intro h8 (And.intro h9 (And.intro h9 (And.intro h9 (And.intro h9 (And.intro h9 (And.intro h9 (And.intro h10 (And.intro h10 (And.intro h10 (And.intro h10 (And.intro h10 (And.intro h10 (And.intro h9 (And.intro h10 (And.intro h9 (And.intro (show (AV.bool true) = ((AV.bool (r6.v a b c d e f at_ n))) by first | (simp only [r6.v, h1, h2, h3, h4, h5, h6, h7, h8, h9, h10, cond_true, cond_false]; done) | (try unfold r6.v; try simp only [h1, cond_true, cond_false]; try simp only [h2, cond_true, cond_false]; try simp only [h3, cond_true, cond_false]; try simp only [h4, cond_true, cond_false]; try simp only [h5, cond_true, cond_false]; try simp only [h6, cond_true, cond_false]; try simp only [h7, cond_true, cond_false]; try simp only [h8, cond_true, cond_false]; try simp only [h9, cond_true, cond_false]; try simp only [h10, cond_true, cond_false]; try rfl; done) | rfl) trivial))))))))))))))))))))))))))))))))))))))))))))))) h
                    | false =>
                      have h10p := ne_of_beq_false h10
                      exact Ret.of_run1 mix [(AV.bool (r6.v a b c d e f at_ n))] Try.func6 rfl [.ret (AV.bool true) (r6.h0 a b c d e f at_ n), .b false, .b false, .b false, .b false, .b false, .b false, .b false, .b false, .ret (AV.tup [AV.int IntKind.i64 (r12.v0 a b c d e f n), AV.int IntKind.i64 (r12.v1 a b c d e f n)]) (r6.h1 a b c d e f at_ n), .ret (AV.tup [AV.int IntKind.i64 (r12.v0 a b c d e at_ n), AV.int IntKind.i64 (r12.v1 a b c d e at_ n)]) (r6.h1 a b c d e f at_ n), .ret (AV.tup [AV.int IntKind.i64 (r12.v0 a b at_ d e f n), AV.int IntKind.i64 (r12.v1 a b at_ d e f n)]) (r6.h1 a b c d e f at_ n), .b false, .b true, .b true, .b true, .b true, .b true, .b true, .b true, .b true, .b true, .b true, .b true, .b true, .b true, .b true, .b true, .b true, .b true, .b true, .b true, .b true, .b true, .b true, .b true, .b false, .b false, .b false, .b false, .b false, .b false, .b true, .b false, .b true] (by simp) (by simp) (kmp (by kernel_rfl) (And.intro (r11 (r6.h0 a b c d e f at_ n)) (And.intro (rfl : false = false) (And.intro h1 (And.intro h1 (And.intro h1 (And.intro h1 (And.intro h1 (And.intro h1 (And.intro h2 (And.intro (r12 (a) (b) (c) (d) (e) (f) (n) (r6.h1 a b c d e f at_ n)) (And.intro (r12 (a) (b) (c) (d) (e) (at_) (n) (r6.h1 a b c d e f at_ n)) (And.intro (r12 (a) (b) (at_) (d) (e) (f) (n) (r6.h1 a b c d e f at_ n)) (And.intro (show (bnot (r12.v1 a b c d e f n == 0)) = false by rw [h3]; try rfl) (And.intro h4 (And.intro h4 (And.intro h4 (And.intro h5 (And.intro h5 (And.intro h5 (And.intro h5 (And.intro h6 (And.intro h6 (And.intro h6 (And.intro h6 (And.intro h7 (And.intro h7 (And.intro h7 (And.intro h8 (And.intro h8 (And.intro h8 (And.intro h9 (And.intro h9 (And.intro h9 (And.intro h9 (And.intro h9 (And.intro h9 (And.intro h10 (And.intro h10 (And.intro h10 (And.intro h10 (And.intro h10 (And.intro h10 (And.intro h9 (And.intro h10 (And.intro h9 (And.intro (show (AV.bool (IntKind.i64.wrap (r12.v0 a b c d e at_ n + r12.v0 a b at_ d e f n) == IntKind.i64.wrap (r12.v0 a b c d e f n - 1))) = ((AV.bool (r6.v a b c d e f at_ n))) by first | (simp only [r6.v, h1, h2, h3, h4, h5, h6, h7, h8, h9, h10, cond_true, cond_false]; done) | (try unfold r6.v; try simp only [h1, cond_true, cond_false]; try simp only [h2, cond_true, cond_false]; try simp only [h3, cond_true, cond_false]; try simp only [h4, cond_true, cond_false]; try simp only [h5, cond_true, cond_false]; try simp only [h6, cond_true, cond_false]; try simp only [h7, cond_true, cond_false]; try simp only [h8, cond_true, cond_false]; try simp only [h9, cond_true, cond_false]; try simp only [h10, cond_true, cond_false]; try rfl; done) | rfl) trivial))))))))))))))))))))))))))))))))))))))))))))))) h
                  | false =>
                    have h9p := of_decide_eq_false h9
                    exact Ret.of_run1 mix [(AV.bool (r6.v a b c d e f at_ n))] Try.func6 rfl [.ret (AV.bool true) (r6.h0 a b c d e f at_ n), .b false, .b false, .b false, .b false, .b false, .b false, .b false, .b false, .ret (AV.tup [AV.int IntKind.i64 (r12.v0 a b c d e f n), AV.int IntKind.i64 (r12.v1 a b c d e f n)]) (r6.h1 a b c d e f at_ n), .ret (AV.tup [AV.int IntKind.i64 (r12.v0 a b c d e at_ n), AV.int IntKind.i64 (r12.v1 a b c d e at_ n)]) (r6.h1 a b c d e f at_ n), .ret (AV.tup [AV.int IntKind.i64 (r12.v0 a b at_ d e f n), AV.int IntKind.i64 (r12.v1 a b at_ d e f n)]) (r6.h1 a b c d e f at_ n), .b false, .b true, .b true, .b true, .b true, .b true, .b true, .b true, .b true, .b true, .b true, .b true, .b true, .b true, .b true, .b true, .b true, .b true, .b false, .b false, .b false, .b false, .b false, .b false, .b false, .b false] (by simp) (by simp) (kmp (by kernel_rfl) (And.intro (r11 (r6.h0 a b c d e f at_ n)) (And.intro (rfl : false = false) (And.intro h1 (And.intro h1 (And.intro h1 (And.intro h1 (And.intro h1 (And.intro h1 (And.intro h2 (And.intro (r12 (a) (b) (c) (d) (e) (f) (n) (r6.h1 a b c d e f at_ n)) (And.intro (r12 (a) (b) (c) (d) (e) (at_) (n) (r6.h1 a b c d e f at_ n)) (And.intro (r12 (a) (b) (at_) (d) (e) (f) (n) (r6.h1 a b c d e f at_ n)) (And.intro (show (bnot (r12.v1 a b c d e f n == 0)) = false by rw [h3]; try rfl) (And.intro h4 (And.intro h4 (And.intro h4 (And.intro h5 (And.intro h5 (And.intro h5 (And.intro h5 (And.intro h6 (And.intro h6 (And.intro h6 (And.intro h6 (And.intro h7 (And.intro h7 (And.intro h7 (And.intro h8 (And.intro h8 (And.intro h8 (And.intro h9 (And.intro h9 (And.intro h9 (And.intro h9 (And.intro h9 (And.intro h9 (And.intro h9 (And.intro h9 (And.intro (show (AV.bool false) = ((AV.bool (r6.v a b c d e f at_ n))) by first | (simp only [r6.v, h1, h2, h3, h4, h5, h6, h7, h8, h9, cond_true, cond_false]; done) | (try unfold r6.v; try simp only [h1, cond_true, cond_false]; try simp only [h2, cond_true, cond_false]; try simp only [h3, cond_true, cond_false]; try simp only [h4, cond_true, cond_false]; try simp only [h5, cond_true, cond_false]; try simp only [h6, cond_true, cond_false]; try simp only [h7, cond_true, cond_false]; try simp only [h8, cond_true, cond_false]; try simp only [h9, cond_true, cond_false]; try rfl; done) | rfl) trivial)))))))))))))))))))))))))))))))))))))))) h
                | false =>
                  have h8p := of_decide_eq_false h8
                  exact Ret.of_run1 mix [(AV.bool (r6.v a b c d e f at_ n))] Try.func6 rfl [.ret (AV.bool true) (r6.h0 a b c d e f at_ n), .b false, .b false, .b false, .b false, .b false, .b false, .b false, .b false, .ret (AV.tup [AV.int IntKind.i64 (r12.v0 a b c d e f n), AV.int IntKind.i64 (r12.v1 a b c d e f n)]) (r6.h1 a b c d e f at_ n), .ret (AV.tup [AV.int IntKind.i64 (r12.v0 a b c d e at_ n), AV.int IntKind.i64 (r12.v1 a b c d e at_ n)]) (r6.h1 a b c d e f at_ n), .ret (AV.tup [AV.int IntKind.i64 (r12.v0 a b at_ d e f n), AV.int IntKind.i64 (r12.v1 a b at_ d e f n)]) (r6.h1 a b c d e f at_ n), .b false, .b true, .b true, .b true, .b true, .b true, .b true, .b true, .b true, .b true, .b true, .b true, .b true, .b true, .b true, .b false, .b false, .b false, .b false, .b false, .b false, .b false, .b false, .b false, .b false, .b false] (by simp) (by simp) (kmp (by kernel_rfl) (And.intro (r11 (r6.h0 a b c d e f at_ n)) (And.intro (rfl : false = false) (And.intro h1 (And.intro h1 (And.intro h1 (And.intro h1 (And.intro h1 (And.intro h1 (And.intro h2 (And.intro (r12 (a) (b) (c) (d) (e) (f) (n) (r6.h1 a b c d e f at_ n)) (And.intro (r12 (a) (b) (c) (d) (e) (at_) (n) (r6.h1 a b c d e f at_ n)) (And.intro (r12 (a) (b) (at_) (d) (e) (f) (n) (r6.h1 a b c d e f at_ n)) (And.intro (show (bnot (r12.v1 a b c d e f n == 0)) = false by rw [h3]; try rfl) (And.intro h4 (And.intro h4 (And.intro h4 (And.intro h5 (And.intro h5 (And.intro h5 (And.intro h5 (And.intro h6 (And.intro h6 (And.intro h6 (And.intro h6 (And.intro h7 (And.intro h7 (And.intro h7 (And.intro h8 (And.intro h8 (And.intro h8 (And.intro (rfl : false = false) (And.intro (rfl : false = false) (And.intro (rfl : false = false) (And.intro (rfl : false = false) (And.intro (rfl : false = false) (And.intro (rfl : false = false) (And.intro (rfl : false = false) (And.intro (rfl : false = false) (And.intro (show (AV.bool false) = ((AV.bool (r6.v a b c d e f at_ n))) by first | (simp only [r6.v, h1, h2, h3, h4, h5, h6, h7, h8, cond_true, cond_false]; done) | (try unfold r6.v; try simp only [h1, cond_true, cond_false]; try simp only [h2, cond_true, cond_false]; try simp only [h3, cond_true, cond_false]; try simp only [h4, cond_true, cond_false]; try simp only [h5, cond_true, cond_false]; try simp only [h6, cond_true, cond_false]; try simp only [h7, cond_true, cond_false]; try simp only [h8, cond_true, cond_false]; try rfl; done) | rfl) trivial)))))))))))))))))))))))))))))))))))))))) h
              | false =>
                have h7p := of_decide_eq_false h7
                exact Ret.of_run1 mix [(AV.bool (r6.v a b c d e f at_ n))] Try.func6 rfl [.ret (AV.bool true) (r6.h0 a b c d e f at_ n), .b false, .b false, .b false, .b false, .b false, .b false, .b false, .b false, .ret (AV.tup [AV.int IntKind.i64 (r12.v0 a b c d e f n), AV.int IntKind.i64 (r12.v1 a b c d e f n)]) (r6.h1 a b c d e f at_ n), .ret (AV.tup [AV.int IntKind.i64 (r12.v0 a b c d e at_ n), AV.int IntKind.i64 (r12.v1 a b c d e at_ n)]) (r6.h1 a b c d e f at_ n), .ret (AV.tup [AV.int IntKind.i64 (r12.v0 a b at_ d e f n), AV.int IntKind.i64 (r12.v1 a b at_ d e f n)]) (r6.h1 a b c d e f at_ n), .b false, .b true, .b true, .b true, .b true, .b true, .b true, .b true, .b true, .b true, .b true, .b true, .b false, .b false, .b false, .b false, .b false, .b false, .b false, .b false, .b false, .b false, .b false, .b false, .b false, .b false] (by simp) (by simp) (kmp (by kernel_rfl) (And.intro (r11 (r6.h0 a b c d e f at_ n)) (And.intro (rfl : false = false) (And.intro h1 (And.intro h1 (And.intro h1 (And.intro h1 (And.intro h1 (And.intro h1 (And.intro h2 (And.intro (r12 (a) (b) (c) (d) (e) (f) (n) (r6.h1 a b c d e f at_ n)) (And.intro (r12 (a) (b) (c) (d) (e) (at_) (n) (r6.h1 a b c d e f at_ n)) (And.intro (r12 (a) (b) (at_) (d) (e) (f) (n) (r6.h1 a b c d e f at_ n)) (And.intro (show (bnot (r12.v1 a b c d e f n == 0)) = false by rw [h3]; try rfl) (And.intro h4 (And.intro h4 (And.intro h4 (And.intro h5 (And.intro h5 (And.intro h5 (And.intro h5 (And.intro h6 (And.intro h6 (And.intro h6 (And.intro h6 (And.intro h7 (And.intro h7 (And.intro h7 (And.intro (rfl : false = false) (And.intro (rfl : false = false) (And.intro (rfl : false = false) (And.intro (rfl : false = false) (And.intro (rfl : false = false) (And.intro (rfl : false = false) (And.intro (rfl : false = false) (And.intro (rfl : false = false) (And.intro (rfl : false = false) (And.intro (rfl : false = false) (And.intro (rfl : false = false) (And.intro (show (AV.bool false) = ((AV.bool (r6.v a b c d e f at_ n))) by first | (simp only [r6.v, h1, h2, h3, h4, h5, h6, h7, cond_true, cond_false]; done) | (try unfold r6.v; try simp only [h1, cond_true, cond_false]; try simp only [h2, cond_true, cond_false]; try simp only [h3, cond_true, cond_false]; try simp only [h4, cond_true, cond_false]; try simp only [h5, cond_true, cond_false]; try simp only [h6, cond_true, cond_false]; try simp only [h7, cond_true, cond_false]; try rfl; done) | rfl) trivial)))))))))))))))))))))))))))))))))))))))) h
            | false =>
              have h6p := of_decide_eq_false h6
              exact Ret.of_run1 mix [(AV.bool (r6.v a b c d e f at_ n))] Try.func6 rfl [.ret (AV.bool true) (r6.h0 a b c d e f at_ n), .b false, .b false, .b false, .b false, .b false, .b false, .b false, .b false, .ret (AV.tup [AV.int IntKind.i64 (r12.v0 a b c d e f n), AV.int IntKind.i64 (r12.v1 a b c d e f n)]) (r6.h1 a b c d e f at_ n), .ret (AV.tup [AV.int IntKind.i64 (r12.v0 a b c d e at_ n), AV.int IntKind.i64 (r12.v1 a b c d e at_ n)]) (r6.h1 a b c d e f at_ n), .ret (AV.tup [AV.int IntKind.i64 (r12.v0 a b at_ d e f n), AV.int IntKind.i64 (r12.v1 a b at_ d e f n)]) (r6.h1 a b c d e f at_ n), .b false, .b true, .b true, .b true, .b true, .b true, .b true, .b true, .b false, .b false, .b false, .b false, .b false, .b false, .b false, .b false, .b false, .b false, .b false, .b false, .b false, .b false, .b false, .b false, .b false, .b false] (by simp) (by simp) (kmp (by kernel_rfl) (And.intro (r11 (r6.h0 a b c d e f at_ n)) (And.intro (rfl : false = false) (And.intro h1 (And.intro h1 (And.intro h1 (And.intro h1 (And.intro h1 (And.intro h1 (And.intro h2 (And.intro (r12 (a) (b) (c) (d) (e) (f) (n) (r6.h1 a b c d e f at_ n)) (And.intro (r12 (a) (b) (c) (d) (e) (at_) (n) (r6.h1 a b c d e f at_ n)) (And.intro (r12 (a) (b) (at_) (d) (e) (f) (n) (r6.h1 a b c d e f at_ n)) (And.intro (show (bnot (r12.v1 a b c d e f n == 0)) = false by rw [h3]; try rfl) (And.intro h4 (And.intro h4 (And.intro h4 (And.intro h5 (And.intro h5 (And.intro h5 (And.intro h5 (And.intro h6 (And.intro h6 (And.intro h6 (And.intro h6 (And.intro (rfl : false = false) (And.intro (rfl : false = false) (And.intro (rfl : false = false) (And.intro (rfl : false = false) (And.intro (rfl : false = false) (And.intro (rfl : false = false) (And.intro (rfl : false = false) (And.intro (rfl : false = false) (And.intro (rfl : false = false) (And.intro (rfl : false = false) (And.intro (rfl : false = false) (And.intro (rfl : false = false) (And.intro (rfl : false = false) (And.intro (rfl : false = false) (And.intro (show (AV.bool false) = ((AV.bool (r6.v a b c d e f at_ n))) by first | (simp only [r6.v, h1, h2, h3, h4, h5, h6, cond_true, cond_false]; done) | (try unfold r6.v; try simp only [h1, cond_true, cond_false]; try simp only [h2, cond_true, cond_false]; try simp only [h3, cond_true, cond_false]; try simp only [h4, cond_true, cond_false]; try simp only [h5, cond_true, cond_false]; try simp only [h6, cond_true, cond_false]; try rfl; done) | rfl) trivial)))))))))))))))))))))))))))))))))))))))) h
          | false =>
            have h5p := ne_of_beq_false h5
            exact Ret.of_run1 mix [(AV.bool (r6.v a b c d e f at_ n))] Try.func6 rfl [.ret (AV.bool true) (r6.h0 a b c d e f at_ n), .b false, .b false, .b false, .b false, .b false, .b false, .b false, .b false, .ret (AV.tup [AV.int IntKind.i64 (r12.v0 a b c d e f n), AV.int IntKind.i64 (r12.v1 a b c d e f n)]) (r6.h1 a b c d e f at_ n), .ret (AV.tup [AV.int IntKind.i64 (r12.v0 a b c d e at_ n), AV.int IntKind.i64 (r12.v1 a b c d e at_ n)]) (r6.h1 a b c d e f at_ n), .ret (AV.tup [AV.int IntKind.i64 (r12.v0 a b at_ d e f n), AV.int IntKind.i64 (r12.v1 a b at_ d e f n)]) (r6.h1 a b c d e f at_ n), .b false, .b true, .b true, .b true, .b false, .b false, .b false, .b false, .b false, .b false, .b false, .b false, .b false, .b false, .b false, .b false, .b false, .b false, .b false, .b false, .b false, .b false, .b false, .b false, .b false, .b false] (by simp) (by simp) (kmp (by kernel_rfl) (And.intro (r11 (r6.h0 a b c d e f at_ n)) (And.intro (rfl : false = false) (And.intro h1 (And.intro h1 (And.intro h1 (And.intro h1 (And.intro h1 (And.intro h1 (And.intro h2 (And.intro (r12 (a) (b) (c) (d) (e) (f) (n) (r6.h1 a b c d e f at_ n)) (And.intro (r12 (a) (b) (c) (d) (e) (at_) (n) (r6.h1 a b c d e f at_ n)) (And.intro (r12 (a) (b) (at_) (d) (e) (f) (n) (r6.h1 a b c d e f at_ n)) (And.intro (show (bnot (r12.v1 a b c d e f n == 0)) = false by rw [h3]; try rfl) (And.intro h4 (And.intro h4 (And.intro h4 (And.intro h5 (And.intro h5 (And.intro h5 (And.intro h5 (And.intro (rfl : false = false) (And.intro (rfl : false = false) (And.intro (rfl : false = false) (And.intro (rfl : false = false) (And.intro (rfl : false = false) (And.intro (rfl : false = false) (And.intro (rfl : false = false) (And.intro (rfl : false = false) (And.intro (rfl : false = false) (And.intro (rfl : false = false) (And.intro (rfl : false = false) (And.intro (rfl : false = false) (And.intro (rfl : false = false) (And.intro (rfl : false = false) (And.intro (rfl : false = false) (And.intro (rfl : false = false) (And.intro (rfl : false = false) (And.intro (rfl : false = false) (And.intro (show (AV.bool false) = ((AV.bool (r6.v a b c d e f at_ n))) by first | (simp only [r6.v, h1, h2, h3, h4, h5, cond_true, cond_false]; done) | (try unfold r6.v; try simp only [h1, cond_true, cond_false]; try simp only [h2, cond_true, cond_false]; try simp only [h3, cond_true, cond_false]; try simp only [h4, cond_true, cond_false]; try simp only [h5, cond_true, cond_false]; try rfl; done) | rfl) trivial)))))))))))))))))))))))))))))))))))))))) h
        | false =>
          have h4p := ne_of_beq_false h4
          exact Ret.of_run1 mix [(AV.bool (r6.v a b c d e f at_ n))] Try.func6 rfl [.ret (AV.bool true) (r6.h0 a b c d e f at_ n), .b false, .b false, .b false, .b false, .b false, .b false, .b false, .b false, .ret (AV.tup [AV.int IntKind.i64 (r12.v0 a b c d e f n), AV.int IntKind.i64 (r12.v1 a b c d e f n)]) (r6.h1 a b c d e f at_ n), .ret (AV.tup [AV.int IntKind.i64 (r12.v0 a b c d e at_ n), AV.int IntKind.i64 (r12.v1 a b c d e at_ n)]) (r6.h1 a b c d e f at_ n), .ret (AV.tup [AV.int IntKind.i64 (r12.v0 a b at_ d e f n), AV.int IntKind.i64 (r12.v1 a b at_ d e f n)]) (r6.h1 a b c d e f at_ n), .b false, .b false, .b false, .b false, .b false, .b false, .b false, .b false, .b false, .b false, .b false, .b false, .b false, .b false, .b false, .b false, .b false, .b false, .b false, .b false, .b false, .b false, .b false, .b false, .b false, .b false] (by simp) (by simp) (kmp (by kernel_rfl) (And.intro (r11 (r6.h0 a b c d e f at_ n)) (And.intro (rfl : false = false) (And.intro h1 (And.intro h1 (And.intro h1 (And.intro h1 (And.intro h1 (And.intro h1 (And.intro h2 (And.intro (r12 (a) (b) (c) (d) (e) (f) (n) (r6.h1 a b c d e f at_ n)) (And.intro (r12 (a) (b) (c) (d) (e) (at_) (n) (r6.h1 a b c d e f at_ n)) (And.intro (r12 (a) (b) (at_) (d) (e) (f) (n) (r6.h1 a b c d e f at_ n)) (And.intro (show (bnot (r12.v1 a b c d e f n == 0)) = false by rw [h3]; try rfl) (And.intro h4 (And.intro h4 (And.intro h4 (And.intro (rfl : false = false) (And.intro (rfl : false = false) (And.intro (rfl : false = false) (And.intro (rfl : false = false) (And.intro (rfl : false = false) (And.intro (rfl : false = false) (And.intro (rfl : false = false) (And.intro (rfl : false = false) (And.intro (rfl : false = false) (And.intro (rfl : false = false) (And.intro (rfl : false = false) (And.intro (rfl : false = false) (And.intro (rfl : false = false) (And.intro (rfl : false = false) (And.intro (rfl : false = false) (And.intro (rfl : false = false) (And.intro (rfl : false = false) (And.intro (rfl : false = false) (And.intro (rfl : false = false) (And.intro (rfl : false = false) (And.intro (rfl : false = false) (And.intro (rfl : false = false) (And.intro (show (AV.bool false) = ((AV.bool (r6.v a b c d e f at_ n))) by first | (simp only [r6.v, h1, h2, h3, h4, cond_true, cond_false]; done) | (try unfold r6.v; try simp only [h1, cond_true, cond_false]; try simp only [h2, cond_true, cond_false]; try simp only [h3, cond_true, cond_false]; try simp only [h4, cond_true, cond_false]; try rfl; done) | rfl) trivial)))))))))))))))))))))))))))))))))))))))) h
      | false =>
        have h3p := ne_of_beq_false h3
        exact Ret.of_run1 mix [(AV.bool (r6.v a b c d e f at_ n))] Try.func6 rfl [.ret (AV.bool true) (r6.h0 a b c d e f at_ n), .b false, .b false, .b false, .b false, .b false, .b false, .b false, .b false, .ret (AV.tup [AV.int IntKind.i64 (r12.v0 a b c d e f n), AV.int IntKind.i64 (r12.v1 a b c d e f n)]) (r6.h1 a b c d e f at_ n), .ret (AV.tup [AV.int IntKind.i64 (r12.v0 a b c d e at_ n), AV.int IntKind.i64 (r12.v1 a b c d e at_ n)]) (r6.h1 a b c d e f at_ n), .ret (AV.tup [AV.int IntKind.i64 (r12.v0 a b at_ d e f n), AV.int IntKind.i64 (r12.v1 a b at_ d e f n)]) (r6.h1 a b c d e f at_ n), .b true] (by simp) (by simp) (kmp (by kernel_rfl) (And.intro (r11 (r6.h0 a b c d e f at_ n)) (And.intro (rfl : false = false) (And.intro h1 (And.intro h1 (And.intro h1 (And.intro h1 (And.intro h1 (And.intro h1 (And.intro h2 (And.intro (r12 (a) (b) (c) (d) (e) (f) (n) (r6.h1 a b c d e f at_ n)) (And.intro (r12 (a) (b) (c) (d) (e) (at_) (n) (r6.h1 a b c d e f at_ n)) (And.intro (r12 (a) (b) (at_) (d) (e) (f) (n) (r6.h1 a b c d e f at_ n)) (And.intro (show (bnot (r12.v1 a b c d e f n == 0)) = true by rw [h3]; try rfl) (And.intro (show (AV.bool (r12.v0 a b c d e f n == 0)) = ((AV.bool (r6.v a b c d e f at_ n))) by first | (simp only [r6.v, h1, h2, h3, cond_true, cond_false]; done) | (try unfold r6.v; try simp only [h1, cond_true, cond_false]; try simp only [h2, cond_true, cond_false]; try simp only [h3, cond_true, cond_false]; try rfl; done) | rfl) trivial))))))))))))))) h

end Go.Proofs.Ytgmppoappaolkaa

/- The law of halves, in plain words. Conditions: none. -/
open Go
namespace Go.Proofs.Ytgmppoappaolkaa
set_option linter.unusedVariables false
set_option linter.unusedSimpArgs false

theorem in_mk {z : Int} (h1 : -1000000 ≤ z) (h2 : z ≤ 1000000) : r57.v z = true := by
  unfold r57.v
  rw [decide_eq_true (show z ≥ -1000000 from h1), decide_eq_true h2]; rfl
theorem box_mk {a b c d e f : Int} (h : BoxOk a b c d e f) : r36.v a b c d e f = 0 := by
  obtain ⟨h1, h2, h3, h4, h5, h6, h7, h8, h9⟩ := h
  unfold r36.v
  rw [in_mk h1 (by omega), in_mk (by omega) h2, in_mk h3 (by omega), in_mk (by omega) h4, in_mk h5 (by omega), in_mk (by omega) h6, decide_eq_false (by omega), decide_eq_false (by omega), decide_eq_false (by omega)]
  rfl
theorem mass_eq {a b c d e f n : Int} (h : BoxOk a b c d e f) (hn : r37.v n = true) : r12.v0 a b c d e f n = massOf a b c d e f n ∧ r12.v1 a b c d e f n = 0 := by
  unfold r12.v0 r12.v1
  rw [box_mk h, hn]
  exact ⟨rfl, rfl⟩
theorem mass_bd {a b c d e f n : Int} (h : BoxOk a b c d e f) (hn : r37.v n = true) : 0 ≤ vol a b c d e f * n ∧ vol a b c d e f * n ≤ 80000000000000000000000 := by
  obtain ⟨_, _, v3, v4⟩ := vol_le h
  obtain ⟨d1, d2⟩ := dens_ok hn
  have := prod2 (p := vol a b c d e f) (q := n) (P := 8000000000000000000) (Q := 10000) v3 v4 (by omega) d2
  omega
theorem vol_split (a b c d e f t : Int) : vol a b c d e f = vol a b c d e t + vol a b t d e f := by
  unfold vol
  rw [← Int.mul_add]
  congr 1
  omega

theorem r6_true (a b c d e f t n : Int) : r6.v a b c d e f t n = true := by
  unfold r6.v
  by_cases h1 : t ≤ c
  · rw [decide_eq_true h1]; rfl
  by_cases h2 : t ≥ f
  · rw [decide_eq_false h1, decide_eq_true h2]; rfl
  rw [decide_eq_false h1, decide_eq_false h2]
  simp only [cond_false]
  cases hb : r36.v a b c d e f == 0 with
  | false =>
    have e1 : r12.v1 a b c d e f n = r36.v a b c d e f := by unfold r12.v1; rw [hb]; rfl
    have e0 : r12.v0 a b c d e f n = 0 := by unfold r12.v0; rw [hb]; rfl
    rw [e1, hb, e0]; rfl
  | true =>
    cases hn : r37.v n with
    | false =>
      have e1 : r12.v1 a b c d e f n = 6 := by unfold r12.v1; rw [hb, hn]; rfl
      have e0 : r12.v0 a b c d e f n = 0 := by unfold r12.v0; rw [hb, hn]; rfl
      rw [e1, e0]; rfl
    | true =>
      have k1 := box_ok hb
      have k2 : BoxOk a b c d e t := ⟨k1.a0, k1.d1, k1.b0, k1.e1, k1.c0, by have := k1.f1; omega, k1.ad, k1.be, by omega⟩
      have k3 : BoxOk a b t d e f := ⟨k1.a0, k1.d1, k1.b0, k1.e1, by have := k1.c0; omega, k1.f1, k1.ad, k1.be, by omega⟩
      rw [(mass_eq k1 hn).1, (mass_eq k1 hn).2, (mass_eq k2 hn).1, (mass_eq k2 hn).2, (mass_eq k3 hn).1, (mass_eq k3 hn).2]
      have b1 := mass_bd k1 hn
      have b2 := mass_bd k2 hn
      have b3 := mass_bd k3 hn
      have hs : vol a b c d e f * n = vol a b c d e t * n + vol a b t d e f * n := by rw [vol_split a b c d e f t, Int.add_mul]
      unfold massOf
      generalize vol a b c d e f * n = X at *
      generalize vol a b c d e t * n = Y at *
      generalize vol a b t d e f * n = Z at *
      have wq : IntKind.i64.wrap (Y / 1000000 + Z / 1000000) = Y / 1000000 + Z / 1000000 := IntWalk.i64_in _ (by omega)
      have wp : IntKind.i64.wrap (X / 1000000 - 1) = X / 1000000 - 1 := IntWalk.i64_in _ (by omega)
      rw [wq, wp, decide_eq_true (show Y / 1000000 ≤ X / 1000000 by omega), decide_eq_true (show Z / 1000000 ≤ X / 1000000 by omega), decide_eq_true (show Y / 1000000 ≥ 0 by omega), decide_eq_true (show Z / 1000000 ≥ 0 by omega)]
      simp only [beq_self_eq_true, cond_true]
      by_cases e : Y / 1000000 + Z / 1000000 = X / 1000000
      · rw [show (Y / 1000000 + Z / 1000000 == X / 1000000) = true from beq_iff_eq.2 e]; rfl
      · rw [show (Y / 1000000 + Z / 1000000 == X / 1000000) = false from beq_eq_false_iff_ne.2 e]
        exact beq_iff_eq.2 (by omega)
end Go.Proofs.Ytgmppoappaolkaa

/- CraneHalves: whatever the input, the law hands back true. Conditions: none. -/
open Go
namespace Go.Proofs.Ytgmppoappaolkaa
open Go.ChangeShapes Go.WideShapes Go.ChangeAt Go.RowKit

set_option maxRecDepth 100000 in
theorem law6 (xs : List AV) (h : FitsA Try.prog 5 [25, 3, 3] xs) : Ret Try.prog 6 xs [] (.bool true) [] := by
  obtain ⟨x0, x1, x2, rfl, h0, h1, h2⟩ := fitsA3 h
  obtain ⟨a1, a2, a3, a4, a5, a6, rfl⟩ := arg_box h0
  obtain ⟨m1, rfl⟩ := arg_int h1
  obtain ⟨m2, rfl⟩ := arg_int h2
  have := r6 a1 a2 a3 a4 a5 a6 m1 m2 []
  rw [r6_true] at this
  exact this.imp (.cons (.refl _) (.cons (.refl _) (.cons (.refl _) .nil)))

set_option maxRecDepth 100000 in
theorem craneHalves_lifted (os : Os) (started : os.Started) (H : Type) (enc : TypeId × Value → H) :
    ReturnsInHanded {} Try.checked os 6 .any (Rows.craneHalvesSpec.pre6 enc Try.prog Try.f6 Rows.craneHalvesRow.domain false) (Rows.craneHalvesSpec.post enc Try.prog Try.f6 false true false false) :=
  lifted (C := Try.checked) 5 own started (by kernel_rfl) Try.func6
    (ChangeSpec.witness6 (enc := enc) (C := Try.checked) false ⟨#[], #[.agg #[.int .i64 0, .int .i64 0, .int .i64 0, .int .i64 0, .int .i64 0, .int .i64 0], .int .i64 0, .int .i64 0], []⟩ 8 (by kernel_rfl) (by kernel_rfl) (by kernel_rfl) (by kernel_rfl))
    rfl (fun ds hd => by
      match ds, hd with
      | [_, _, _], _ => rfl) (rt := 4) (by kernel_rfl) (by kernel_rfl) laidOut (by kernel_rfl) law6

theorem craneHalves_holds : Rows.CraneHalvesSaid :=
  OpenClaim.holds_of_wide 6 Try.f6 rfl rfl rfl rfl rfl rfl rfl ⟨rfl, rfl, rfl, rfl, rfl⟩ rfl rfl rfl rfl rfl (by kernel_rfl) Try.func6 (by kernel_rfl)
    (of_decide_eq_true (by kernel_rfl)) (by unfold Func.isWrapper; first | (rw [if_pos (by decide +kernel)]; kernel_rfl) | (rw [if_neg (by decide +kernel)]; exact ⟨rfl, rfl⟩))
    (fun os started H enc _ => craneHalves_lifted os started H enc)
#print axioms craneHalves_holds
end Go.Proofs.Ytgmppoappaolkaa
