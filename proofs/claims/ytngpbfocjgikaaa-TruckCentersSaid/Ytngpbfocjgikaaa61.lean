/- Contracts of the functions and plain laws, part 1. Conditions: none. -/
import Derived.Test.YtngpbfocjgikaaaW3
import Derived.Test.YtngpbfocjgikaaaChecked
import Derived.KernelRfl
import Derived.IntWalk
import Derived.Test.YtngpbfocjgikaaaRows

open Go

namespace Go.Proofs.Ytngpbfocjgikaaa

set_option linter.unusedVariables false

set_option linter.unusedSimpArgs false

theorem mix : Try.prog.follows .mixedOrders = true := Try.checked.mixed

end Go.Proofs.Ytngpbfocjgikaaa

open Go

namespace Go.Proofs.Ytngpbfocjgikaaa

set_option linter.unusedVariables false

set_option linter.unusedSimpArgs false

set_option maxRecDepth 100000

def tabL : List Int :=
  List.replicate 40 0 ++ [4, 4, 0, 4, 4, 0, 0, 4] ++ List.replicate 10 2 ++ [4, 0, 4, 4, 4, 0, 0] ++ List.replicate 26 1 ++ [0, 0, 0, 0, 3, 0] ++ List.replicate 26 1 ++ List.replicate 133 0

def tab : AV := .agg (tabL.map (.int .u8))

set_option maxHeartbeats 0

theorem r98 (h : AHeap) : Ret Try.prog 98 [] h tab h :=
  (interp_sound mix (c0 := fun _ _ _ => none) (fun _ _ _ _ _ h => by cases h) 300 98 [] [] tab [] (by kernel_rfl)).frame (by simp) h

def c98 : CallF := fun g args h => match Nat.beq g 98, args with
  | true, [] => some (tab, h)
  | _, _ => none

theorem c98_ok : CallOk Try.prog c98 := by
  intro g args h r h' hc
  unfold c98 at hc
  split at hc
  · rename_i hg
    cases Nat.eq_of_beq_eq_true hg
    cases hc
    exact r98 h
  · cases hc

/-- Whether a byte may stand within a name. -/
def inB (c : Int) : Bool := (decide (48 ≤ c) && decide (c ≤ 57)) || (decide (65 ≤ c) && decide (c ≤ 90)) || c == 95 || (decide (97 ≤ c) && decide (c ≤ 122))

def isB : Option (AV × AHeap) → Bool → Bool
  | some (.bool b, []), q => b == q
  | _, _ => false

theorem isB_spec {o : Option (AV × AHeap)} {q : Bool} (h : isB o q = true) : o = some (.bool q, []) := by
  unfold isB at h
  split at h
  · rw [eq_of_beq h]
  · cases h

theorem inner_all : ((List.range 256).all fun c => isB (interp Try.prog c98 300 59 [.int .u8 (c : Int)] []) (inB (c : Int))) = true := by kernel_rfl

theorem r59 (c : Int) (h0 : 0 ≤ c) (h1 : c ≤ 255) (h : AHeap) : Ret Try.prog 59 [AV.int .u8 c] h (.bool (inB c)) h := by
  obtain ⟨n, rfl⟩ := Int.eq_ofNat_of_zero_le h0
  have hn : n < 256 := by omega
  have := isB_spec (List.all_eq_true.1 inner_all n (List.mem_range.2 hn))
  exact (interp_sound mix c98_ok 300 59 _ [] _ [] this).frame (by simp) h

end Go.Proofs.Ytngpbfocjgikaaa

open Go

namespace Go.Proofs.Ytngpbfocjgikaaa

set_option linter.unusedSimpArgs false

set_option linter.unusedVariables false

set_option maxHeartbeats 0

set_option maxRecDepth 100000

/-- A load. -/
structure LD where
  nm : ByteArray
  lo : Int
  ln : Int
  ms : Int

deriving Inhabited

def LD.av (s : LD) : AV := .agg [.str s.nm, .int .i64 s.lo, .int .i64 s.ln, .int .i64 s.ms]

def lds (n : Nat) (g : Nat → LD) : AV := .sl 4 n (fun i => (g i).av)

@[simp] theorem low_ld (lo : Nat) (s : LD) : Low lo s.av = True := by unfold LD.av; simp

@[simp] theorem low_lds (lo n : Nat) (g : Nat → LD) : Low lo (lds n g) = True := by unfold lds; simp

/-- A truck. -/
structure TD where
  nm : ByteArray
  tl : Int
  fr : Int
  re : Int
  l0 : Int
  l1 : Int
  e0 : Int
  e1 : Int

deriving Inhabited

def TD.av (t : TD) : AV := .agg [.str t.nm, .int .i64 t.tl, .int .i64 t.fr, .int .i64 t.re, .int .i64 t.l0, .int .i64 t.l1, .int .i64 t.e0, .int .i64 t.e1]

@[simp] theorem low_td (lo : Nat) (s : TD) : Low lo s.av = True := by unfold TD.av; simp

noncomputable def r58.v (c : Int) : Bool := (bif inB c then (bif decide (c < 65) then true else decide (c > 90)) else false)

theorem r58 (c : Int) (h0 : 0 ≤ c) (h1 : c ≤ 255) (h : AHeap) : Ret Try.prog 58 ([AV.int IntKind.u8 c]) h (AV.bool (r58.v c)) h := by
  have o0 : (0 : Int) ≤ c := by first | assumption | omega | (simp_all; done)
  have o1 : c ≤ (255 : Int) := by first | assumption | omega | (simp_all; done)
  cases h1 : inB c with
  | true =>
    cases h2 : decide (c < 65) with
    | true =>
      have h2p := of_decide_eq_true h2
      exact Ret.of_run1 mix [(AV.bool (r58.v c))] Try.func58 rfl [.ret (AV.bool (inB c)) ([]), .b true, .b true, .b true, .b true, .b true, .b true, .b true, .b true] (by simp) (by simp) (kmp (by kernel_rfl) (And.intro (r59 (c) o0 o1 ([])) (And.intro h1 (And.intro h1 (And.intro h1 (And.intro h2 (And.intro h2 (And.intro h1 (And.intro h2 (And.intro h1 (And.intro (show (AV.bool true) = ((AV.bool (r58.v c))) by first | (simp only [r58.v, h1, h2, cond_true, cond_false]; done) | (try unfold r58.v; try simp only [h1, cond_true, cond_false]; try simp only [h2, cond_true, cond_false]; try rfl; done) | rfl) trivial))))))))))) h
    | false =>
      have h2p := of_decide_eq_false h2
      exact Ret.of_run1 mix [(AV.bool (r58.v c))] Try.func58 rfl [.ret (AV.bool (inB c)) ([]), .b true, .b true, .b true, .b false, .b false, .b true, .b false, .b true] (by simp) (by simp) (kmp (by kernel_rfl) (And.intro (r59 (c) o0 o1 ([])) (And.intro h1 (And.intro h1 (And.intro h1 (And.intro h2 (And.intro h2 (And.intro h1 (And.intro h2 (And.intro h1 (And.intro (show (AV.bool (decide (c > 90))) = ((AV.bool (r58.v c))) by first | (simp only [r58.v, h1, h2, cond_true, cond_false]; done) | (try unfold r58.v; try simp only [h1, cond_true, cond_false]; try simp only [h2, cond_true, cond_false]; try rfl; done) | rfl) trivial))))))))))) h
  | false =>
    exact Ret.of_run1 mix [(AV.bool (r58.v c))] Try.func58 rfl [.ret (AV.bool (inB c)) ([]), .b false, .b false, .b false, .b false, .b false] (by simp) (by simp) (kmp (by kernel_rfl) (And.intro (r59 (c) o0 o1 ([])) (And.intro h1 (And.intro h1 (And.intro h1 (And.intro h1 (And.intro h1 (And.intro (show (AV.bool false) = ((AV.bool (r58.v c))) by first | (simp only [r58.v, h1, cond_true, cond_false]; done) | (try unfold r58.v; try simp only [h1, cond_true, cond_false]; try rfl; done) | rfl) trivial)))))))) h

inductive L57.O where
  | e0 (a0 : Int)

noncomputable def L57.T (s : ByteArray) (i : Int) : List AV := mkT 20 [(0, AV.str s), (1, AV.fn 58 []), (5, AV.int IntKind.i64 i)]

noncomputable def L57.H (s : ByteArray) (i : Int) : AHeap := []

def L57.inv (s : ByteArray) (i : Int) : Prop := 0 ≤ i ∧ i ≤ (↑s.size : Int)

noncomputable def L57.mu (s : ByteArray) (i : Int) : Nat := ((↑s.size : Int) - i).toNat

noncomputable def L57.E : L57.O → Exit
  | .e0 a0 => Exit.exit 0

noncomputable def L57.X (s : ByteArray) : L57.O → List AV
  | .e0 a0 => mkT 20 [(5, (AV.int IntKind.i64 a0))]

noncomputable def L57.XH (s : ByteArray) : L57.O → AHeap
  | .e0 a0 => ([])

noncomputable def L57.N (s : ByteArray) : Nat → Int → L57.O
  | 0, i => .e0 i
  | k_ + 1, i => (bif decide (i < (↑s.size : Int)) then (bif r58.v (sbyte s i.toNat) then (L57.N s k_ (IntKind.i64.wrap (i + 1))) else (.e0 (i))) else (.e0 (i)))

noncomputable def L57.run (s : ByteArray) (i : Int) : L57.O := L57.N s ((((↑s.size : Int) - i).toNat) + 1) i

theorem L57.nx (s : ByteArray) {k_ : Nat} {z_ : Int} {h_ : AHeap} (s_ : Int) (h1 : L57.inv s s_) (h2 : L57.mu s s_ < L57.mu s z_) (h3 : L57.N s k_ s_ = L57.N s (k_ + 1) z_) (h4 : PopOk (L57.H s z_) h_ (L57.T s s_) (L57.H s s_)) : LNextP (fun (z_ : Int) => L57.T s z_) (fun (z_ : Int) => L57.H s z_) (fun (z_ : Int) => L57.inv s z_) (fun (z_ : Int) => L57.mu s z_) (fun (k_ : Nat) (z_ : Int) => L57.N s k_ z_) k_ z_ (L57.T s s_) h_ := LNextP.mk (Tm := (fun (z_ : Int) => L57.T s z_)) (Hp := (fun (z_ : Int) => L57.H s z_)) (inv := (fun (z_ : Int) => L57.inv s z_)) (mu := (fun (z_ : Int) => L57.mu s z_)) (l := (fun (k_ : Nat) (z_ : Int) => L57.N s k_ z_)) s_ h1 h2 h3 h4

theorem L57.en (s : ByteArray) {k_ : Nat} {z_ : Int} {h_ : AHeap} (o_ : L57.O) (h3 : L57.N s (k_ + 1) z_ = o_) (h4 : PopOk (L57.H s z_) h_ (L57.X s o_) (L57.XH s o_)) : LEndP (fun (z_ : Int) => L57.H s z_) (fun (k_ : Nat) (z_ : Int) => L57.N s k_ z_) L57.E (L57.X s) (L57.XH s) k_ z_ (L57.E o_) (L57.X s o_) h_ := LEndP.mk (Hp := (fun (z_ : Int) => L57.H s z_)) (l := (fun (k_ : Nat) (z_ : Int) => L57.N s k_ z_)) (oE := L57.E) (oT := L57.X s) (oH := L57.XH s) o_ h3 h4

theorem L57.spec (s : ByteArray) (hs : s.size ≤ 9223372036854775807) (k_ : Nat) (z_ : Int) (hi_ : L57.inv s z_) (hm_ : L57.mu s z_ < k_) : LoopTo Try.prog (loopN Try.f57 0) (L57.T s z_) (L57.H s z_) (L57.E (L57.N s k_ z_)) (L57.X s (L57.N s k_ z_)) (L57.XH s (L57.N s k_ z_)) := by
  refine LoopTo.fuelP mix (fun (z_ : Int) => L57.T s z_) (fun (z_ : Int) => L57.H s z_) (fun (z_ : Int) => L57.inv s z_) (fun (z_ : Int) => L57.mu s z_) (fun (k_ : Nat) (z_ : Int) => L57.N s k_ z_) L57.E (L57.X s) (L57.XH s) (others 20 [0, 1, 5]) (others 20 [4]) (others 20 [5]) ?_ k_ z_ hi_ hm_
  clear hm_ hi_ z_ k_
  intro k_ z_ hinv hmu
  revert hinv hmu; revert z_; intro i hinv hmu
  have hinv : 0 ≤ i ∧ i ≤ (↑s.size : Int) := hinv
  have hmu : (((↑s.size : Int) - i).toNat) < k_ + 1 := hmu
  cases h1 : decide (i < (↑s.size : Int)) with
  | true =>
    have h1p := of_decide_eq_true h1
    have o0 : (0 : Int) ≤ i := by first | assumption | omega | (simp_all; done)
    have o1 : i < (↑s.size : Int) := by first | assumption | omega | (simp_all; done)
    try have := sbyte_bd (s) (i.toNat)
    have o2 : (0 : Int) ≤ sbyte s i.toNat := by first | assumption | omega | (simp_all; done)
    have o3 : sbyte s i.toNat ≤ (255 : Int) := by first | assumption | omega | (simp_all; done)
    cases h2 : r58.v (sbyte s i.toNat) with
    | true =>
      try have := IntWalk.i64_in (i + 1) (by omega)
      have o4 : (0 : Int) ≤ IntKind.i64.wrap (i + (1 : Int)) := by first | assumption | omega | (simp_all; done)
      have o5 : IntKind.i64.wrap (i + (1 : Int)) ≤ (↑s.size : Int) := by first | assumption | omega | (simp_all; done)
      have o6 : ((↑s.size : Int) - IntKind.i64.wrap (i + (1 : Int))).toNat < ((↑s.size : Int) - i).toNat := by first | assumption | omega | (simp_all; done)
      exact ⟨[.b true, .b true, .b true, .b true, .b true, .ret (AV.bool (r58.v (sbyte s i.toNat))) ([]), .b true, .b true], kmp (by kernel_rfl) (And.intro h1 (And.intro h1 (And.intro h1 (And.intro h1 (And.intro (And.intro o0 o1) (And.intro h1 (And.intro (r58 (sbyte s i.toNat) o2 o3 ([])) (And.intro h1 (And.intro h2 (L57.nx s (k_ := k_) (z_ := i) (IntKind.i64.wrap (i + 1)) (And.intro o4 o5) o6 (by first | (simp only [L57.N, h1, h2, cond_true, cond_false]; done) | (try unfold L57.N; try simp only [h1, cond_true, cond_false]; try simp only [h2, cond_true, cond_false]; try rfl; done)) PopOk.same))))))))))⟩
    | false =>
      exact ⟨[.b true, .b true, .b true, .b true, .b true, .ret (AV.bool (r58.v (sbyte s i.toNat))) ([]), .b true, .b false], kmp (by kernel_rfl) (And.intro h1 (And.intro h1 (And.intro h1 (And.intro h1 (And.intro (And.intro o0 o1) (And.intro h1 (And.intro (r58 (sbyte s i.toNat) o2 o3 ([])) (And.intro h1 (And.intro h2 (L57.en s (k_ := k_) (z_ := i) (.e0 (i) : L57.O) (by first | (simp only [L57.N, h1, h2, cond_true, cond_false]; done) | (try unfold L57.N; try simp only [h1, cond_true, cond_false]; try simp only [h2, cond_true, cond_false]; try rfl; done)) PopOk.same))))))))))⟩
  | false =>
    have h1p := of_decide_eq_false h1
    exact ⟨[.b false, .b false, .b false, .b false, .b false, .b false, .b false], kmp (by kernel_rfl) (And.intro h1 (And.intro h1 (And.intro h1 (And.intro h1 (And.intro h1 (And.intro h1 (And.intro (rfl : false = false) (L57.en s (k_ := k_) (z_ := i) (.e0 (i) : L57.O) (by first | (simp only [L57.N, h1, cond_true, cond_false]; done) | (try unfold L57.N; try simp only [h1, cond_true, cond_false]; try rfl; done)) PopOk.same))))))))⟩

theorem L57.e0 (s : ByteArray) (hs : s.size ≤ 9223372036854775807) (i : Int) (hinv : L57.inv s i) (a0 : Int) (hN : L57.run s i = (.e0 a0 : L57.O)) : LoopTo Try.prog (loopN Try.f57 0) (L57.T s i) (L57.H s i) (Exit.exit 0) (L57.X s (.e0 a0 : L57.O)) (L57.XH s (.e0 a0 : L57.O)) := by
  have h_ := L57.spec s hs ((((↑s.size : Int) - i).toNat) + 1) i hinv (Nat.lt_succ_self _)
  unfold L57.run at hN
  simp only [hN] at h_
  exact h_

noncomputable def r57.v (s : ByteArray) : Int := (match L57.run s 0 with | .e0 h1d0 => h1d0 )

theorem r57 (s : ByteArray) (hs : s.size ≤ 9223372036854775807) (h : AHeap) : Ret Try.prog 57 ([AV.str s, AV.fn 58 []]) h (AV.int IntKind.i64 (r57.v s)) h := by
  have o0 : s.size ≤ (9223372036854775807 : Nat) := by first | assumption | omega | (simp_all; done)
  have o1 : (0 : Int) ≤ (↑s.size : Int) := by first | assumption | omega | (simp_all; done)
  cases h1 : L57.run s 0 with
  | e0 h1d0 =>
    exact Ret.of_run1 mix [(AV.int IntKind.i64 (r57.v s))] Try.func57 rfl [.loop (others 20 [0, 1, 5]) (Exit.exit 0) (L57.X s (L57.O.e0 h1d0)) (L57.XH s (L57.O.e0 h1d0))] (by simp) (by simp) (kmp (by kernel_rfl) (And.intro (L57.e0 (s) o0 (0) (And.intro (show (0 : Int) ≤ (0 : Int) by first | decide | exact Int.NonNeg.mk _) o1) h1d0 h1) (And.intro (show (AV.int IntKind.i64 h1d0) = ((AV.int IntKind.i64 (r57.v s))) by first | (simp only [r57.v, h1, cond_true, cond_false]; done) | (try unfold r57.v; try simp only [h1, cond_true, cond_false]; try rfl; done) | rfl) trivial))) h

noncomputable def r38.v (s : ByteArray) : Bool := (bif s.toList == (ByteArray.mk #[]).toList then false else (bif decide ((↑s.size : Int) > 24) then false else (bif decide (sbyte s 0 < 97) then false else (bif decide (sbyte s 0 > 122) then false else r57.v s == (↑s.size : Int)))))

theorem r38 (s : ByteArray) (hs : s.size ≤ 9223372036854775807) (h : AHeap) : Ret Try.prog 38 ([AV.str s]) h (AV.bool (r38.v s)) h := by
  cases h1 : s.toList == (ByteArray.mk #[]).toList with
  | true =>
    have h1p := str_eq h1
    exact Ret.of_run1 mix [(AV.bool (r38.v s))] Try.func38 rfl [.b true, .b true, .b true, .b true, .b true, .b true, .b true, .b true, .b true, .b true, .b true, .b true, .b true] (by simp) (by simp) (kmp (by kernel_rfl) (And.intro h1 (And.intro h1 (And.intro h1 (And.intro h1 (And.intro (rfl : true = true) (And.intro (rfl : true = true) (And.intro (rfl : true = true) (And.intro (rfl : true = true) (And.intro (rfl : true = true) (And.intro (rfl : true = true) (And.intro (rfl : true = true) (And.intro (rfl : true = true) (And.intro (rfl : true = true) (And.intro (show (AV.bool false) = ((AV.bool (r38.v s))) by first | (simp only [r38.v, h1, cond_true, cond_false]; done) | (try unfold r38.v; try simp only [h1, cond_true, cond_false]; try rfl; done) | rfl) trivial))))))))))))))) h
  | false =>
    have h1p := str_ne h1
    have h1q := str_pos h1
    cases h2 : decide ((↑s.size : Int) > 24) with
    | true =>
      have h2p := of_decide_eq_true h2
      exact Ret.of_run1 mix [(AV.bool (r38.v s))] Try.func38 rfl [.b false, .b false, .b false, .b false, .b true, .b true, .b true, .b true, .b true, .b true, .b true, .b true, .b true] (by simp) (by simp) (kmp (by kernel_rfl) (And.intro h1 (And.intro h1 (And.intro h1 (And.intro h1 (And.intro h2 (And.intro h2 (And.intro h2 (And.intro h2 (And.intro (rfl : true = true) (And.intro (rfl : true = true) (And.intro (rfl : true = true) (And.intro (rfl : true = true) (And.intro (rfl : true = true) (And.intro (show (AV.bool false) = ((AV.bool (r38.v s))) by first | (simp only [r38.v, h1, h2, cond_true, cond_false]; done) | (try unfold r38.v; try simp only [h1, cond_true, cond_false]; try simp only [h2, cond_true, cond_false]; try rfl; done) | rfl) trivial))))))))))))))) h
    | false =>
      have h2p := of_decide_eq_false h2
      have o0 : (0 : Int) < (↑s.size : Int) := by first | assumption | omega | (simp_all; done)
      cases h3 : decide (sbyte s 0 < 97) with
      | true =>
        have h3p := of_decide_eq_true h3
        exact Ret.of_run1 mix [(AV.bool (r38.v s))] Try.func38 rfl [.b false, .b false, .b false, .b false, .b false, .b false, .b false, .b false, .b true, .b true, .b true, .b true, .b true] (by simp) (by simp) (kmp (by kernel_rfl) (And.intro h1 (And.intro h1 (And.intro h1 (And.intro h1 (And.intro h2 (And.intro h2 (And.intro (And.intro (show (0 : Int) ≤ (0 : Int) by first | decide | exact Int.NonNeg.mk _) o0) (And.intro h2 (And.intro h2 (And.intro h3 (And.intro h3 (And.intro h3 (And.intro h3 (And.intro (rfl : true = true) (And.intro (show (AV.bool false) = ((AV.bool (r38.v s))) by first | (simp only [r38.v, h1, h2, h3, cond_true, cond_false]; done) | (try unfold r38.v; try simp only [h1, cond_true, cond_false]; try simp only [h2, cond_true, cond_false]; try simp only [h3, cond_true, cond_false]; try rfl; done) | rfl) trivial)))))))))))))))) h
      | false =>
        have h3p := of_decide_eq_false h3
        cases h4 : decide (sbyte s 0 > 122) with
        | true =>
          have h4p := of_decide_eq_true h4
          exact Ret.of_run1 mix [(AV.bool (r38.v s))] Try.func38 rfl [.b false, .b false, .b false, .b false, .b false, .b false, .b false, .b false, .b false, .b false, .b false, .b false, .b true] (by simp) (by simp) (kmp (by kernel_rfl) (And.intro h1 (And.intro h1 (And.intro h1 (And.intro h1 (And.intro h2 (And.intro h2 (And.intro (And.intro (show (0 : Int) ≤ (0 : Int) by first | decide | exact Int.NonNeg.mk _) o0) (And.intro h2 (And.intro h2 (And.intro h3 (And.intro h3 (And.intro (And.intro (show (0 : Int) ≤ (0 : Int) by first | decide | exact Int.NonNeg.mk _) o0) (And.intro h3 (And.intro h3 (And.intro h4 (And.intro (show (AV.bool false) = ((AV.bool (r38.v s))) by first | (simp only [r38.v, h1, h2, h3, h4, cond_true, cond_false]; done) | (try unfold r38.v; try simp only [h1, cond_true, cond_false]; try simp only [h2, cond_true, cond_false]; try simp only [h3, cond_true, cond_false]; try simp only [h4, cond_true, cond_false]; try rfl; done) | rfl) trivial))))))))))))))))) h
        | false =>
          have h4p := of_decide_eq_false h4
          have o1 : s.size ≤ (9223372036854775807 : Nat) := by first | assumption | omega | (simp_all; done)
          exact Ret.of_run1 mix [(AV.bool (r38.v s))] Try.func38 rfl [.b false, .b false, .b false, .b false, .b false, .b false, .b false, .b false, .b false, .b false, .b false, .b false, .b false, .ret (AV.int IntKind.i64 (r57.v s)) ([])] (by simp) (by simp) (kmp (by kernel_rfl) (And.intro h1 (And.intro h1 (And.intro h1 (And.intro h1 (And.intro h2 (And.intro h2 (And.intro (And.intro (show (0 : Int) ≤ (0 : Int) by first | decide | exact Int.NonNeg.mk _) o0) (And.intro h2 (And.intro h2 (And.intro h3 (And.intro h3 (And.intro (And.intro (show (0 : Int) ≤ (0 : Int) by first | decide | exact Int.NonNeg.mk _) o0) (And.intro h3 (And.intro h3 (And.intro h4 (And.intro (r57 (s) o1 ([])) (And.intro (show (AV.bool (r57.v s == (↑s.size : Int))) = ((AV.bool (r38.v s))) by first | (simp only [r38.v, h1, h2, h3, h4, cond_true, cond_false]; done) | (try unfold r38.v; try simp only [h1, cond_true, cond_false]; try simp only [h2, cond_true, cond_false]; try simp only [h3, cond_true, cond_false]; try simp only [h4, cond_true, cond_false]; try rfl; done) | rfl) trivial)))))))))))))))))) h

noncomputable def r78.v (c : Int) : Bool := (bif decide (c ≥ 48) then decide (c ≤ 57) else false)

theorem r78 (c : Int) (h : AHeap) : Ret Try.prog 78 ([AV.int IntKind.u8 c]) h (AV.bool (r78.v c)) h := by
  cases h1 : decide (c ≥ 48) with
  | true =>
    have h1p := of_decide_eq_true h1
    exact Ret.of_run1 mix [(AV.bool (r78.v c))] Try.func78 rfl [.b true, .b true, .b true] (by simp) (by simp) (kmp (by kernel_rfl) (And.intro h1 (And.intro h1 (And.intro h1 (And.intro (show (AV.bool (decide (c ≤ 57))) = ((AV.bool (r78.v c))) by first | (simp only [r78.v, h1, cond_true, cond_false]; done) | (try unfold r78.v; try simp only [h1, cond_true, cond_false]; try rfl; done) | rfl) trivial))))) h
  | false =>
    have h1p := of_decide_eq_false h1
    exact Ret.of_run1 mix [(AV.bool (r78.v c))] Try.func78 rfl [.b false, .b false, .b false] (by simp) (by simp) (kmp (by kernel_rfl) (And.intro h1 (And.intro h1 (And.intro h1 (And.intro (show (AV.bool false) = ((AV.bool (r78.v c))) by first | (simp only [r78.v, h1, cond_true, cond_false]; done) | (try unfold r78.v; try simp only [h1, cond_true, cond_false]; try rfl; done) | rfl) trivial))))) h

noncomputable def r56.v (c : Int) : Bool := (bif decide (c ≥ 97) then (bif decide (c ≤ 122) then true else (bif decide (c ≥ 65) then decide (c ≤ 90) else false)) else (bif decide (c ≥ 65) then decide (c ≤ 90) else false))

theorem r56 (c : Int) (h : AHeap) : Ret Try.prog 56 ([AV.int IntKind.u8 c]) h (AV.bool (r56.v c)) h := by
  cases h1 : decide (c ≥ 97) with
  | true =>
    have h1p := of_decide_eq_true h1
    cases h2 : decide (c ≤ 122) with
    | true =>
      have h2p := of_decide_eq_true h2
      exact Ret.of_run1 mix [(AV.bool (r56.v c))] Try.func56 rfl [.b true, .b true, .b true, .b true, .b true, .b true, .b true, .b true] (by simp) (by simp) (kmp (by kernel_rfl) (And.intro h1 (And.intro h1 (And.intro h1 (And.intro h2 (And.intro h2 (And.intro h2 (And.intro h2 (And.intro h2 (And.intro (show (AV.bool true) = ((AV.bool (r56.v c))) by first | (simp only [r56.v, h1, h2, cond_true, cond_false]; done) | (try unfold r56.v; try simp only [h1, cond_true, cond_false]; try simp only [h2, cond_true, cond_false]; try rfl; done) | rfl) trivial)))))))))) h
    | false =>
      have h2p := of_decide_eq_false h2
      cases h3 : decide (c ≥ 65) with
      | true =>
        have h3p := of_decide_eq_true h3
        exact Ret.of_run1 mix [(AV.bool (r56.v c))] Try.func56 rfl [.b true, .b true, .b true, .b false, .b false, .b false, .b true, .b true, .b false, .b true, .b false] (by simp) (by simp) (kmp (by kernel_rfl) (And.intro h1 (And.intro h1 (And.intro h1 (And.intro h2 (And.intro h2 (And.intro h2 (And.intro h3 (And.intro h3 (And.intro h2 (And.intro h3 (And.intro h2 (And.intro (show (AV.bool (decide (c ≤ 90))) = ((AV.bool (r56.v c))) by first | (simp only [r56.v, h1, h2, h3, cond_true, cond_false]; done) | (try unfold r56.v; try simp only [h1, cond_true, cond_false]; try simp only [h2, cond_true, cond_false]; try simp only [h3, cond_true, cond_false]; try rfl; done) | rfl) trivial))))))))))))) h
      | false =>
        have h3p := of_decide_eq_false h3
        exact Ret.of_run1 mix [(AV.bool (r56.v c))] Try.func56 rfl [.b true, .b true, .b true, .b false, .b false, .b false, .b false, .b false, .b false, .b false, .b false] (by simp) (by simp) (kmp (by kernel_rfl) (And.intro h1 (And.intro h1 (And.intro h1 (And.intro h2 (And.intro h2 (And.intro h2 (And.intro h3 (And.intro h3 (And.intro h2 (And.intro h3 (And.intro h2 (And.intro (show (AV.bool false) = ((AV.bool (r56.v c))) by first | (simp only [r56.v, h1, h2, h3, cond_true, cond_false]; done) | (try unfold r56.v; try simp only [h1, cond_true, cond_false]; try simp only [h2, cond_true, cond_false]; try simp only [h3, cond_true, cond_false]; try rfl; done) | rfl) trivial))))))))))))) h
  | false =>
    have h1p := of_decide_eq_false h1
    cases h2 : decide (c ≥ 65) with
    | true =>
      have h2p := of_decide_eq_true h2
      exact Ret.of_run1 mix [(AV.bool (r56.v c))] Try.func56 rfl [.b false, .b false, .b false, .b false, .b false, .b false, .b true, .b true, .b false, .b true, .b false] (by simp) (by simp) (kmp (by kernel_rfl) (And.intro h1 (And.intro h1 (And.intro h1 (And.intro (rfl : false = false) (And.intro (rfl : false = false) (And.intro (rfl : false = false) (And.intro h2 (And.intro h2 (And.intro (rfl : false = false) (And.intro h2 (And.intro (rfl : false = false) (And.intro (show (AV.bool (decide (c ≤ 90))) = ((AV.bool (r56.v c))) by first | (simp only [r56.v, h1, h2, cond_true, cond_false]; done) | (try unfold r56.v; try simp only [h1, cond_true, cond_false]; try simp only [h2, cond_true, cond_false]; try rfl; done) | rfl) trivial))))))))))))) h
    | false =>
      have h2p := of_decide_eq_false h2
      exact Ret.of_run1 mix [(AV.bool (r56.v c))] Try.func56 rfl [.b false, .b false, .b false, .b false, .b false, .b false, .b false, .b false, .b false, .b false, .b false] (by simp) (by simp) (kmp (by kernel_rfl) (And.intro h1 (And.intro h1 (And.intro h1 (And.intro (rfl : false = false) (And.intro (rfl : false = false) (And.intro (rfl : false = false) (And.intro h2 (And.intro h2 (And.intro (rfl : false = false) (And.intro h2 (And.intro (rfl : false = false) (And.intro (show (AV.bool false) = ((AV.bool (r56.v c))) by first | (simp only [r56.v, h1, h2, cond_true, cond_false]; done) | (try unfold r56.v; try simp only [h1, cond_true, cond_false]; try simp only [h2, cond_true, cond_false]; try rfl; done) | rfl) trivial))))))))))))) h

noncomputable def r55.v (c : Int) : Bool := (bif r78.v c then true else (bif r56.v c then true else c == 95))

theorem r55 (c : Int) (h : AHeap) : Ret Try.prog 55 ([AV.int IntKind.u8 c]) h (AV.bool (r55.v c)) h := by
  cases h1 : r78.v c with
  | true =>
    exact Ret.of_run1 mix [(AV.bool (r55.v c))] Try.func55 rfl [.ret (AV.bool (r78.v c)) ([]), .b true, .b true, .b true, .b true, .b true, .b true] (by simp) (by simp) (kmp (by kernel_rfl) (And.intro (r78 (c) ([])) (And.intro h1 (And.intro h1 (And.intro h1 (And.intro (rfl : true = true) (And.intro (rfl : true = true) (And.intro (rfl : true = true) (And.intro (show (AV.bool true) = ((AV.bool (r55.v c))) by first | (simp only [r55.v, h1, cond_true, cond_false]; done) | (try unfold r55.v; try simp only [h1, cond_true, cond_false]; try rfl; done) | rfl) trivial))))))))) h
  | false =>
    cases h2 : r56.v c with
    | true =>
      exact Ret.of_run1 mix [(AV.bool (r55.v c))] Try.func55 rfl [.ret (AV.bool (r78.v c)) ([]), .b false, .b false, .ret (AV.bool (r56.v c)) ([]), .b false, .b true, .b true, .b true] (by simp) (by simp) (kmp (by kernel_rfl) (And.intro (r78 (c) ([])) (And.intro h1 (And.intro h1 (And.intro (r56 (c) ([])) (And.intro h1 (And.intro h2 (And.intro h2 (And.intro h2 (And.intro (show (AV.bool true) = ((AV.bool (r55.v c))) by first | (simp only [r55.v, h1, h2, cond_true, cond_false]; done) | (try unfold r55.v; try simp only [h1, cond_true, cond_false]; try simp only [h2, cond_true, cond_false]; try rfl; done) | rfl) trivial)))))))))) h
    | false =>
      exact Ret.of_run1 mix [(AV.bool (r55.v c))] Try.func55 rfl [.ret (AV.bool (r78.v c)) ([]), .b false, .b false, .ret (AV.bool (r56.v c)) ([]), .b false, .b false, .b false, .b false] (by simp) (by simp) (kmp (by kernel_rfl) (And.intro (r78 (c) ([])) (And.intro h1 (And.intro h1 (And.intro (r56 (c) ([])) (And.intro h1 (And.intro h2 (And.intro h2 (And.intro h2 (And.intro (show (AV.bool (c == 95)) = ((AV.bool (r55.v c))) by first | (simp only [r55.v, h1, h2, cond_true, cond_false]; done) | (try unfold r55.v; try simp only [h1, cond_true, cond_false]; try simp only [h2, cond_true, cond_false]; try rfl; done) | rfl) trivial)))))))))) h

inductive L36.O where
  | e0
  | e1

noncomputable def L36.T (s : ByteArray) (i : Int) : List AV := mkT 46 [(0, AV.str s), (3, AV.int IntKind.i64 i)]

noncomputable def L36.H (s : ByteArray) (i : Int) : AHeap := []

def L36.inv (s : ByteArray) (i : Int) : Prop := 0 ≤ i ∧ i ≤ (↑s.size : Int)

noncomputable def L36.mu (s : ByteArray) (i : Int) : Nat := ((↑s.size : Int) - i).toNat

noncomputable def L36.E : L36.O → Exit
  | .e0 => Exit.ret
  | .e1 => Exit.exit 0

noncomputable def L36.X (s : ByteArray) : L36.O → List AV
  | .e0 => mkT 46 [(2, (AV.bool false))]
  | .e1 => mkT 46 [(0, AV.str s)]

noncomputable def L36.XH (s : ByteArray) : L36.O → AHeap
  | .e0 => ([])
  | .e1 => ([])

noncomputable def L36.N (s : ByteArray) : Nat → Int → L36.O
  | 0, _ => .e0
  | k_ + 1, i => (bif decide (i < (↑s.size : Int)) then (bif r55.v (sbyte s i.toNat) then (bif decide (sbyte s i.toNat ≥ 65) then (bif decide (sbyte s i.toNat ≤ 90) then (.e0) else (bif i == 0 then (bif r56.v (sbyte s i.toNat) then (L36.N s k_ (IntKind.i64.wrap (i + 1))) else (.e0)) else (L36.N s k_ (IntKind.i64.wrap (i + 1))))) else (bif i == 0 then (bif r56.v (sbyte s i.toNat) then (L36.N s k_ (IntKind.i64.wrap (i + 1))) else (.e0)) else (L36.N s k_ (IntKind.i64.wrap (i + 1))))) else (.e0)) else (.e1))

noncomputable def L36.run (s : ByteArray) (i : Int) : L36.O := L36.N s ((((↑s.size : Int) - i).toNat) + 1) i

theorem L36.nx (s : ByteArray) {k_ : Nat} {z_ : Int} {h_ : AHeap} (s_ : Int) (h1 : L36.inv s s_) (h2 : L36.mu s s_ < L36.mu s z_) (h3 : L36.N s k_ s_ = L36.N s (k_ + 1) z_) (h4 : PopOk (L36.H s z_) h_ (L36.T s s_) (L36.H s s_)) : LNextP (fun (z_ : Int) => L36.T s z_) (fun (z_ : Int) => L36.H s z_) (fun (z_ : Int) => L36.inv s z_) (fun (z_ : Int) => L36.mu s z_) (fun (k_ : Nat) (z_ : Int) => L36.N s k_ z_) k_ z_ (L36.T s s_) h_ := LNextP.mk (Tm := (fun (z_ : Int) => L36.T s z_)) (Hp := (fun (z_ : Int) => L36.H s z_)) (inv := (fun (z_ : Int) => L36.inv s z_)) (mu := (fun (z_ : Int) => L36.mu s z_)) (l := (fun (k_ : Nat) (z_ : Int) => L36.N s k_ z_)) s_ h1 h2 h3 h4

theorem L36.en (s : ByteArray) {k_ : Nat} {z_ : Int} {h_ : AHeap} (o_ : L36.O) (h3 : L36.N s (k_ + 1) z_ = o_) (h4 : PopOk (L36.H s z_) h_ (L36.X s o_) (L36.XH s o_)) : LEndP (fun (z_ : Int) => L36.H s z_) (fun (k_ : Nat) (z_ : Int) => L36.N s k_ z_) L36.E (L36.X s) (L36.XH s) k_ z_ (L36.E o_) (L36.X s o_) h_ := LEndP.mk (Hp := (fun (z_ : Int) => L36.H s z_)) (l := (fun (k_ : Nat) (z_ : Int) => L36.N s k_ z_)) (oE := L36.E) (oT := L36.X s) (oH := L36.XH s) o_ h3 h4

theorem L36.spec (s : ByteArray) (hs : s.size ≤ 9223372036854775807) (k_ : Nat) (z_ : Int) (hi_ : L36.inv s z_) (hm_ : L36.mu s z_ < k_) : LoopTo Try.prog (loopN Try.f36 0) (L36.T s z_) (L36.H s z_) (L36.E (L36.N s k_ z_)) (L36.X s (L36.N s k_ z_)) (L36.XH s (L36.N s k_ z_)) := by
  refine LoopTo.fuelP mix (fun (z_ : Int) => L36.T s z_) (fun (z_ : Int) => L36.H s z_) (fun (z_ : Int) => L36.inv s z_) (fun (z_ : Int) => L36.mu s z_) (fun (k_ : Nat) (z_ : Int) => L36.N s k_ z_) L36.E (L36.X s) (L36.XH s) (others 46 [0, 3]) (others 46 [2]) (others 46 [0]) ?_ k_ z_ hi_ hm_
  clear hm_ hi_ z_ k_
  intro k_ z_ hinv hmu
  revert hinv hmu; revert z_; intro i hinv hmu
  have hinv : 0 ≤ i ∧ i ≤ (↑s.size : Int) := hinv
  have hmu : (((↑s.size : Int) - i).toNat) < k_ + 1 := hmu
  cases h1 : decide (i < (↑s.size : Int)) with
  | true =>
    have h1p := of_decide_eq_true h1
    have o0 : (0 : Int) ≤ i := by first | assumption | omega | (simp_all; done)
    have o1 : i < (↑s.size : Int) := by first | assumption | omega | (simp_all; done)
    cases h2 : r55.v (sbyte s i.toNat) with
    | true =>
      cases h3 : decide (sbyte s i.toNat ≥ 65) with
      | true =>
        have h3p := of_decide_eq_true h3
        cases h4 : decide (sbyte s i.toNat ≤ 90) with
        | true =>
          have h4p := of_decide_eq_true h4
          exact ⟨[.b true, .ret (AV.bool (r55.v (sbyte s i.toNat))) ([]), .b false, .b false, .b false, .b false, .b false, .b true, .b true, .b true, .b true, .b false, .b true, .b false, .b true, .b true, .b true, .b true, .b true, .b true], kmp (by kernel_rfl) (And.intro h1 (And.intro (And.intro o0 o1) (And.intro (r55 (sbyte s i.toNat) ([])) (And.intro (show (bnot (r55.v (sbyte s i.toNat))) = false by rw [h2]; try rfl) (And.intro (show (bnot (r55.v (sbyte s i.toNat))) = false by rw [h2]; try rfl) (And.intro (show (bnot (r55.v (sbyte s i.toNat))) = false by rw [h2]; try rfl) (And.intro (And.intro o0 o1) (And.intro (show (bnot (r55.v (sbyte s i.toNat))) = false by rw [h2]; try rfl) (And.intro (show (bnot (r55.v (sbyte s i.toNat))) = false by rw [h2]; try rfl) (And.intro h3 (And.intro h3 (And.intro h3 (And.intro (And.intro o0 o1) (And.intro h3 (And.intro (show (bnot (r55.v (sbyte s i.toNat))) = false by rw [h2]; try rfl) (And.intro h3 (And.intro (show (bnot (r55.v (sbyte s i.toNat))) = false by rw [h2]; try rfl) (And.intro h4 (And.intro h4 (And.intro h4 (And.intro h4 (And.intro h4 (And.intro (rfl : true = true) (L36.en s (k_ := k_) (z_ := i) (.e0 : L36.O) (by first | (simp only [L36.N, h1, h2, h3, h4, cond_true, cond_false]; done) | (try unfold L36.N; try simp only [h1, cond_true, cond_false]; try simp only [h2, cond_true, cond_false]; try simp only [h3, cond_true, cond_false]; try simp only [h4, cond_true, cond_false]; try rfl; done)) PopOk.same))))))))))))))))))))))))⟩
        | false =>
          have h4p := of_decide_eq_false h4
          cases h5 : i == 0 with
          | true =>
            have h5p := eq_of_beq h5
            cases h6 : r56.v (sbyte s i.toNat) with
            | true =>
              try have := IntWalk.i64_in (i + 1) (by omega)
              have o2 : (0 : Int) ≤ IntKind.i64.wrap (i + (1 : Int)) := by first | assumption | omega | (simp_all; done)
              have o3 : IntKind.i64.wrap (i + (1 : Int)) ≤ (↑s.size : Int) := by first | assumption | omega | (simp_all; done)
              have o4 : ((↑s.size : Int) - IntKind.i64.wrap (i + (1 : Int))).toNat < ((↑s.size : Int) - i).toNat := by first | assumption | omega | (simp_all; done)
              exact ⟨[.b true, .ret (AV.bool (r55.v (sbyte s i.toNat))) ([]), .b false, .b false, .b false, .b false, .b false, .b true, .b true, .b true, .b true, .b false, .b true, .b false, .b false, .b false, .b false, .b true, .b true, .b true, .b true, .ret (AV.bool (r56.v (sbyte s i.toNat))) ([]), .b true, .b false, .b true, .b false, .b false], kmp (by kernel_rfl) (And.intro h1 (And.intro (And.intro o0 o1) (And.intro (r55 (sbyte s i.toNat) ([])) (And.intro (show (bnot (r55.v (sbyte s i.toNat))) = false by rw [h2]; try rfl) (And.intro (show (bnot (r55.v (sbyte s i.toNat))) = false by rw [h2]; try rfl) (And.intro (show (bnot (r55.v (sbyte s i.toNat))) = false by rw [h2]; try rfl) (And.intro (And.intro o0 o1) (And.intro (show (bnot (r55.v (sbyte s i.toNat))) = false by rw [h2]; try rfl) (And.intro (show (bnot (r55.v (sbyte s i.toNat))) = false by rw [h2]; try rfl) (And.intro h3 (And.intro h3 (And.intro h3 (And.intro (And.intro o0 o1) (And.intro h3 (And.intro (show (bnot (r55.v (sbyte s i.toNat))) = false by rw [h2]; try rfl) (And.intro h3 (And.intro (show (bnot (r55.v (sbyte s i.toNat))) = false by rw [h2]; try rfl) (And.intro h4 (And.intro h4 (And.intro h4 (And.intro h5 (And.intro h5 (And.intro h5 (And.intro (And.intro o0 o1) (And.intro h5 (And.intro (r56 (sbyte s i.toNat) ([])) (And.intro h5 (And.intro h4 (And.intro h5 (And.intro h4 (And.intro (show (bnot (r56.v (sbyte s i.toNat))) = false by rw [h6]; try rfl) (L36.nx s (k_ := k_) (z_ := i) (IntKind.i64.wrap (i + 1)) (And.intro o2 o3) o4 (by first | (simp only [L36.N, h1, h2, h3, h4, h5, h6, cond_true, cond_false]; done) | (try unfold L36.N; try simp only [h1, cond_true, cond_false]; try simp only [h2, cond_true, cond_false]; try simp only [h3, cond_true, cond_false]; try simp only [h4, cond_true, cond_false]; try simp only [h5, cond_true, cond_false]; try simp only [h6, cond_true, cond_false]; try rfl; done)) PopOk.same))))))))))))))))))))))))))))))))⟩
            | false =>
              exact ⟨[.b true, .ret (AV.bool (r55.v (sbyte s i.toNat))) ([]), .b false, .b false, .b false, .b false, .b false, .b true, .b true, .b true, .b true, .b false, .b true, .b false, .b false, .b false, .b false, .b true, .b true, .b true, .b true, .ret (AV.bool (r56.v (sbyte s i.toNat))) ([]), .b true, .b false, .b true, .b false, .b true], kmp (by kernel_rfl) (And.intro h1 (And.intro (And.intro o0 o1) (And.intro (r55 (sbyte s i.toNat) ([])) (And.intro (show (bnot (r55.v (sbyte s i.toNat))) = false by rw [h2]; try rfl) (And.intro (show (bnot (r55.v (sbyte s i.toNat))) = false by rw [h2]; try rfl) (And.intro (show (bnot (r55.v (sbyte s i.toNat))) = false by rw [h2]; try rfl) (And.intro (And.intro o0 o1) (And.intro (show (bnot (r55.v (sbyte s i.toNat))) = false by rw [h2]; try rfl) (And.intro (show (bnot (r55.v (sbyte s i.toNat))) = false by rw [h2]; try rfl) (And.intro h3 (And.intro h3 (And.intro h3 (And.intro (And.intro o0 o1) (And.intro h3 (And.intro (show (bnot (r55.v (sbyte s i.toNat))) = false by rw [h2]; try rfl) (And.intro h3 (And.intro (show (bnot (r55.v (sbyte s i.toNat))) = false by rw [h2]; try rfl) (And.intro h4 (And.intro h4 (And.intro h4 (And.intro h5 (And.intro h5 (And.intro h5 (And.intro (And.intro o0 o1) (And.intro h5 (And.intro (r56 (sbyte s i.toNat) ([])) (And.intro h5 (And.intro h4 (And.intro h5 (And.intro h4 (And.intro (show (bnot (r56.v (sbyte s i.toNat))) = true by rw [h6]; try rfl) (L36.en s (k_ := k_) (z_ := i) (.e0 : L36.O) (by first | (simp only [L36.N, h1, h2, h3, h4, h5, h6, cond_true, cond_false]; done) | (try unfold L36.N; try simp only [h1, cond_true, cond_false]; try simp only [h2, cond_true, cond_false]; try simp only [h3, cond_true, cond_false]; try simp only [h4, cond_true, cond_false]; try simp only [h5, cond_true, cond_false]; try simp only [h6, cond_true, cond_false]; try rfl; done)) PopOk.same))))))))))))))))))))))))))))))))⟩
          | false =>
            have h5p := ne_of_beq_false h5
            try have := IntWalk.i64_in (i + 1) (by omega)
            have o2 : (0 : Int) ≤ IntKind.i64.wrap (i + (1 : Int)) := by first | assumption | omega | (simp_all; done)
            have o3 : IntKind.i64.wrap (i + (1 : Int)) ≤ (↑s.size : Int) := by first | assumption | omega | (simp_all; done)
            have o4 : ((↑s.size : Int) - IntKind.i64.wrap (i + (1 : Int))).toNat < ((↑s.size : Int) - i).toNat := by first | assumption | omega | (simp_all; done)
            exact ⟨[.b true, .ret (AV.bool (r55.v (sbyte s i.toNat))) ([]), .b false, .b false, .b false, .b false, .b false, .b true, .b true, .b true, .b true, .b false, .b true, .b false, .b false, .b false, .b false, .b false, .b false, .b false, .b false, .b false, .b false, .b false, .b false, .b false], kmp (by kernel_rfl) (And.intro h1 (And.intro (And.intro o0 o1) (And.intro (r55 (sbyte s i.toNat) ([])) (And.intro (show (bnot (r55.v (sbyte s i.toNat))) = false by rw [h2]; try rfl) (And.intro (show (bnot (r55.v (sbyte s i.toNat))) = false by rw [h2]; try rfl) (And.intro (show (bnot (r55.v (sbyte s i.toNat))) = false by rw [h2]; try rfl) (And.intro (And.intro o0 o1) (And.intro (show (bnot (r55.v (sbyte s i.toNat))) = false by rw [h2]; try rfl) (And.intro (show (bnot (r55.v (sbyte s i.toNat))) = false by rw [h2]; try rfl) (And.intro h3 (And.intro h3 (And.intro h3 (And.intro (And.intro o0 o1) (And.intro h3 (And.intro (show (bnot (r55.v (sbyte s i.toNat))) = false by rw [h2]; try rfl) (And.intro h3 (And.intro (show (bnot (r55.v (sbyte s i.toNat))) = false by rw [h2]; try rfl) (And.intro h4 (And.intro h4 (And.intro h4 (And.intro h5 (And.intro h5 (And.intro h5 (And.intro h5 (And.intro h5 (And.intro h4 (And.intro h5 (And.intro h4 (And.intro (rfl : false = false) (L36.nx s (k_ := k_) (z_ := i) (IntKind.i64.wrap (i + 1)) (And.intro o2 o3) o4 (by first | (simp only [L36.N, h1, h2, h3, h4, h5, cond_true, cond_false]; done) | (try unfold L36.N; try simp only [h1, cond_true, cond_false]; try simp only [h2, cond_true, cond_false]; try simp only [h3, cond_true, cond_false]; try simp only [h4, cond_true, cond_false]; try simp only [h5, cond_true, cond_false]; try rfl; done)) PopOk.same))))))))))))))))))))))))))))))⟩
      | false =>
        have h3p := of_decide_eq_false h3
        cases h4 : i == 0 with
        | true =>
          have h4p := eq_of_beq h4
          cases h5 : r56.v (sbyte s i.toNat) with
          | true =>
            try have := IntWalk.i64_in (i + 1) (by omega)
            have o2 : (0 : Int) ≤ IntKind.i64.wrap (i + (1 : Int)) := by first | assumption | omega | (simp_all; done)
            have o3 : IntKind.i64.wrap (i + (1 : Int)) ≤ (↑s.size : Int) := by first | assumption | omega | (simp_all; done)
            have o4 : ((↑s.size : Int) - IntKind.i64.wrap (i + (1 : Int))).toNat < ((↑s.size : Int) - i).toNat := by first | assumption | omega | (simp_all; done)
            exact ⟨[.b true, .ret (AV.bool (r55.v (sbyte s i.toNat))) ([]), .b false, .b false, .b false, .b false, .b false, .b false, .b false, .b false, .b false, .b false, .b false, .b false, .b false, .b false, .b false, .b true, .b true, .b true, .b true, .ret (AV.bool (r56.v (sbyte s i.toNat))) ([]), .b true, .b false, .b true, .b false, .b false], kmp (by kernel_rfl) (And.intro h1 (And.intro (And.intro o0 o1) (And.intro (r55 (sbyte s i.toNat) ([])) (And.intro (show (bnot (r55.v (sbyte s i.toNat))) = false by rw [h2]; try rfl) (And.intro (show (bnot (r55.v (sbyte s i.toNat))) = false by rw [h2]; try rfl) (And.intro (show (bnot (r55.v (sbyte s i.toNat))) = false by rw [h2]; try rfl) (And.intro (And.intro o0 o1) (And.intro (show (bnot (r55.v (sbyte s i.toNat))) = false by rw [h2]; try rfl) (And.intro (show (bnot (r55.v (sbyte s i.toNat))) = false by rw [h2]; try rfl) (And.intro h3 (And.intro h3 (And.intro h3 (And.intro h3 (And.intro (show (bnot (r55.v (sbyte s i.toNat))) = false by rw [h2]; try rfl) (And.intro h3 (And.intro (show (bnot (r55.v (sbyte s i.toNat))) = false by rw [h2]; try rfl) (And.intro (rfl : false = false) (And.intro (rfl : false = false) (And.intro (rfl : false = false) (And.intro h4 (And.intro h4 (And.intro h4 (And.intro (And.intro o0 o1) (And.intro h4 (And.intro (r56 (sbyte s i.toNat) ([])) (And.intro h4 (And.intro (rfl : false = false) (And.intro h4 (And.intro (rfl : false = false) (And.intro (show (bnot (r56.v (sbyte s i.toNat))) = false by rw [h5]; try rfl) (L36.nx s (k_ := k_) (z_ := i) (IntKind.i64.wrap (i + 1)) (And.intro o2 o3) o4 (by first | (simp only [L36.N, h1, h2, h3, h4, h5, cond_true, cond_false]; done) | (try unfold L36.N; try simp only [h1, cond_true, cond_false]; try simp only [h2, cond_true, cond_false]; try simp only [h3, cond_true, cond_false]; try simp only [h4, cond_true, cond_false]; try simp only [h5, cond_true, cond_false]; try rfl; done)) PopOk.same)))))))))))))))))))))))))))))))⟩
          | false =>
            exact ⟨[.b true, .ret (AV.bool (r55.v (sbyte s i.toNat))) ([]), .b false, .b false, .b false, .b false, .b false, .b false, .b false, .b false, .b false, .b false, .b false, .b false, .b false, .b false, .b false, .b true, .b true, .b true, .b true, .ret (AV.bool (r56.v (sbyte s i.toNat))) ([]), .b true, .b false, .b true, .b false, .b true], kmp (by kernel_rfl) (And.intro h1 (And.intro (And.intro o0 o1) (And.intro (r55 (sbyte s i.toNat) ([])) (And.intro (show (bnot (r55.v (sbyte s i.toNat))) = false by rw [h2]; try rfl) (And.intro (show (bnot (r55.v (sbyte s i.toNat))) = false by rw [h2]; try rfl) (And.intro (show (bnot (r55.v (sbyte s i.toNat))) = false by rw [h2]; try rfl) (And.intro (And.intro o0 o1) (And.intro (show (bnot (r55.v (sbyte s i.toNat))) = false by rw [h2]; try rfl) (And.intro (show (bnot (r55.v (sbyte s i.toNat))) = false by rw [h2]; try rfl) (And.intro h3 (And.intro h3 (And.intro h3 (And.intro h3 (And.intro (show (bnot (r55.v (sbyte s i.toNat))) = false by rw [h2]; try rfl) (And.intro h3 (And.intro (show (bnot (r55.v (sbyte s i.toNat))) = false by rw [h2]; try rfl) (And.intro (rfl : false = false) (And.intro (rfl : false = false) (And.intro (rfl : false = false) (And.intro h4 (And.intro h4 (And.intro h4 (And.intro (And.intro o0 o1) (And.intro h4 (And.intro (r56 (sbyte s i.toNat) ([])) (And.intro h4 (And.intro (rfl : false = false) (And.intro h4 (And.intro (rfl : false = false) (And.intro (show (bnot (r56.v (sbyte s i.toNat))) = true by rw [h5]; try rfl) (L36.en s (k_ := k_) (z_ := i) (.e0 : L36.O) (by first | (simp only [L36.N, h1, h2, h3, h4, h5, cond_true, cond_false]; done) | (try unfold L36.N; try simp only [h1, cond_true, cond_false]; try simp only [h2, cond_true, cond_false]; try simp only [h3, cond_true, cond_false]; try simp only [h4, cond_true, cond_false]; try simp only [h5, cond_true, cond_false]; try rfl; done)) PopOk.same)))))))))))))))))))))))))))))))⟩
        | false =>
          have h4p := ne_of_beq_false h4
          try have := IntWalk.i64_in (i + 1) (by omega)
          have o2 : (0 : Int) ≤ IntKind.i64.wrap (i + (1 : Int)) := by first | assumption | omega | (simp_all; done)
          have o3 : IntKind.i64.wrap (i + (1 : Int)) ≤ (↑s.size : Int) := by first | assumption | omega | (simp_all; done)
          have o4 : ((↑s.size : Int) - IntKind.i64.wrap (i + (1 : Int))).toNat < ((↑s.size : Int) - i).toNat := by first | assumption | omega | (simp_all; done)
          exact ⟨[.b true, .ret (AV.bool (r55.v (sbyte s i.toNat))) ([]), .b false, .b false, .b false, .b false, .b false, .b false, .b false, .b false, .b false, .b false, .b false, .b false, .b false, .b false, .b false, .b false, .b false, .b false, .b false, .b false, .b false, .b false, .b false, .b false], kmp (by kernel_rfl) (And.intro h1 (And.intro (And.intro o0 o1) (And.intro (r55 (sbyte s i.toNat) ([])) (And.intro (show (bnot (r55.v (sbyte s i.toNat))) = false by rw [h2]; try rfl) (And.intro (show (bnot (r55.v (sbyte s i.toNat))) = false by rw [h2]; try rfl) (And.intro (show (bnot (r55.v (sbyte s i.toNat))) = false by rw [h2]; try rfl) (And.intro (And.intro o0 o1) (And.intro (show (bnot (r55.v (sbyte s i.toNat))) = false by rw [h2]; try rfl) (And.intro (show (bnot (r55.v (sbyte s i.toNat))) = false by rw [h2]; try rfl) (And.intro h3 (And.intro h3 (And.intro h3 (And.intro h3 (And.intro (show (bnot (r55.v (sbyte s i.toNat))) = false by rw [h2]; try rfl) (And.intro h3 (And.intro (show (bnot (r55.v (sbyte s i.toNat))) = false by rw [h2]; try rfl) (And.intro (rfl : false = false) (And.intro (rfl : false = false) (And.intro (rfl : false = false) (And.intro h4 (And.intro h4 (And.intro h4 (And.intro h4 (And.intro h4 (And.intro (rfl : false = false) (And.intro h4 (And.intro (rfl : false = false) (And.intro (rfl : false = false) (L36.nx s (k_ := k_) (z_ := i) (IntKind.i64.wrap (i + 1)) (And.intro o2 o3) o4 (by first | (simp only [L36.N, h1, h2, h3, h4, cond_true, cond_false]; done) | (try unfold L36.N; try simp only [h1, cond_true, cond_false]; try simp only [h2, cond_true, cond_false]; try simp only [h3, cond_true, cond_false]; try simp only [h4, cond_true, cond_false]; try rfl; done)) PopOk.same)))))))))))))))))))))))))))))⟩
    | false =>
      exact ⟨[.b true, .ret (AV.bool (r55.v (sbyte s i.toNat))) ([]), .b true, .b true, .b true, .b true, .b true, .b true, .b true, .b true, .b true, .b true, .b true, .b true, .b true], kmp (by kernel_rfl) (And.intro h1 (And.intro (And.intro o0 o1) (And.intro (r55 (sbyte s i.toNat) ([])) (And.intro (show (bnot (r55.v (sbyte s i.toNat))) = true by rw [h2]; try rfl) (And.intro (show (bnot (r55.v (sbyte s i.toNat))) = true by rw [h2]; try rfl) (And.intro (show (bnot (r55.v (sbyte s i.toNat))) = true by rw [h2]; try rfl) (And.intro (show (bnot (r55.v (sbyte s i.toNat))) = true by rw [h2]; try rfl) (And.intro (show (bnot (r55.v (sbyte s i.toNat))) = true by rw [h2]; try rfl) (And.intro (show (bnot (r55.v (sbyte s i.toNat))) = true by rw [h2]; try rfl) (And.intro (show (bnot (r55.v (sbyte s i.toNat))) = true by rw [h2]; try rfl) (And.intro (rfl : true = true) (And.intro (rfl : true = true) (And.intro (rfl : true = true) (And.intro (rfl : true = true) (And.intro (rfl : true = true) (And.intro (rfl : true = true) (L36.en s (k_ := k_) (z_ := i) (.e0 : L36.O) (by first | (simp only [L36.N, h1, h2, cond_true, cond_false]; done) | (try unfold L36.N; try simp only [h1, cond_true, cond_false]; try simp only [h2, cond_true, cond_false]; try rfl; done)) PopOk.same)))))))))))))))))⟩
  | false =>
    have h1p := of_decide_eq_false h1
    exact ⟨[.b false], kmp (by kernel_rfl) (And.intro h1 (L36.en s (k_ := k_) (z_ := i) (.e1 : L36.O) (by first | (simp only [L36.N, h1, cond_true, cond_false]; done) | (try unfold L36.N; try simp only [h1, cond_true, cond_false]; try rfl; done)) PopOk.same))⟩

theorem L36.e0 (s : ByteArray) (hs : s.size ≤ 9223372036854775807) (i : Int) (hinv : L36.inv s i) (hN : L36.run s i = (.e0 : L36.O)) : LoopTo Try.prog (loopN Try.f36 0) (L36.T s i) (L36.H s i) (Exit.ret) (L36.X s (.e0 : L36.O)) (L36.XH s (.e0 : L36.O)) := by
  have h_ := L36.spec s hs ((((↑s.size : Int) - i).toNat) + 1) i hinv (Nat.lt_succ_self _)
  unfold L36.run at hN
  simp only [hN] at h_
  exact h_

theorem L36.e1 (s : ByteArray) (hs : s.size ≤ 9223372036854775807) (i : Int) (hinv : L36.inv s i) (hN : L36.run s i = (.e1 : L36.O)) : LoopTo Try.prog (loopN Try.f36 0) (L36.T s i) (L36.H s i) (Exit.exit 0) (L36.X s (.e1 : L36.O)) (L36.XH s (.e1 : L36.O)) := by
  have h_ := L36.spec s hs ((((↑s.size : Int) - i).toNat) + 1) i hinv (Nat.lt_succ_self _)
  unfold L36.run at hN
  simp only [hN] at h_
  exact h_

noncomputable def r36.v (s : ByteArray) : Bool := (match L36.run s 0 with | .e0 => false | .e1 => (bif decide ((↑s.size : Int) ≥ 1) then decide ((↑s.size : Int) ≤ 24) else false) )

theorem r36 (s : ByteArray) (hs : s.size ≤ 9223372036854775807) (h : AHeap) : Ret Try.prog 36 ([AV.str s]) h (AV.bool (r36.v s)) h := by
  have o0 : s.size ≤ (9223372036854775807 : Nat) := by first | assumption | omega | (simp_all; done)
  have o1 : (0 : Int) ≤ (↑s.size : Int) := by first | assumption | omega | (simp_all; done)
  cases h1 : L36.run s 0 with
  | e0 =>
    exact Ret.of_run1 mix [(AV.bool (r36.v s))] Try.func36 rfl [.loop (others 46 [0, 3]) (Exit.ret) (L36.X s L36.O.e0) (L36.XH s L36.O.e0)] (by simp) (by simp) (kmp (by kernel_rfl) (And.intro (L36.e0 (s) o0 (0) (And.intro (show (0 : Int) ≤ (0 : Int) by first | decide | exact Int.NonNeg.mk _) o1) h1) (And.intro (show (AV.bool false) = ((AV.bool (r36.v s))) by first | (simp only [r36.v, h1, cond_true, cond_false]; done) | (try unfold r36.v; try simp only [h1, cond_true, cond_false]; try rfl; done) | rfl) trivial))) h
  | e1 =>
    cases h2 : decide ((↑s.size : Int) ≥ 1) with
    | true =>
      have h2p := of_decide_eq_true h2
      exact Ret.of_run1 mix [(AV.bool (r36.v s))] Try.func36 rfl [.loop (others 46 [0, 3]) (Exit.exit 0) (L36.X s L36.O.e1) (L36.XH s L36.O.e1), .b true, .b true, .b true, .b true] (by simp) (by simp) (kmp (by kernel_rfl) (And.intro (L36.e1 (s) o0 (0) (And.intro (show (0 : Int) ≤ (0 : Int) by first | decide | exact Int.NonNeg.mk _) o1) h1) (And.intro h2 (And.intro h2 (And.intro h2 (And.intro h2 (And.intro (show (AV.bool (decide ((↑s.size : Int) ≤ 24))) = ((AV.bool (r36.v s))) by first | (simp only [r36.v, h2, h1, cond_true, cond_false]; done) | (try unfold r36.v; try simp only [h2, cond_true, cond_false]; try simp only [h1, cond_true, cond_false]; try rfl; done) | rfl) trivial))))))) h
    | false =>
      have h2p := of_decide_eq_false h2
      exact Ret.of_run1 mix [(AV.bool (r36.v s))] Try.func36 rfl [.loop (others 46 [0, 3]) (Exit.exit 0) (L36.X s L36.O.e1) (L36.XH s L36.O.e1), .b false, .b false, .b false, .b false] (by simp) (by simp) (kmp (by kernel_rfl) (And.intro (L36.e1 (s) o0 (0) (And.intro (show (0 : Int) ≤ (0 : Int) by first | decide | exact Int.NonNeg.mk _) o1) h1) (And.intro h2 (And.intro h2 (And.intro h2 (And.intro h2 (And.intro (show (AV.bool false) = ((AV.bool (r36.v s))) by first | (simp only [r36.v, h2, h1, cond_true, cond_false]; done) | (try unfold r36.v; try simp only [h2, cond_true, cond_false]; try simp only [h1, cond_true, cond_false]; try rfl; done) | rfl) trivial))))))) h

noncomputable def r32.v (n : Int) (a : Int) (b : Int) : Bool := (bif decide (n ≥ a) then decide (n ≤ b) else false)

theorem r32 (n : Int) (a : Int) (b : Int) (h : AHeap) : Ret Try.prog 32 ([AV.int IntKind.i64 n, AV.int IntKind.i64 a, AV.int IntKind.i64 b]) h (AV.bool (r32.v n a b)) h := by
  cases h1 : decide (n ≥ a) with
  | true =>
    have h1p := of_decide_eq_true h1
    exact Ret.of_run1 mix [(AV.bool (r32.v n a b))] Try.func32 rfl [.b true, .b true, .b true, .b true] (by simp) (by simp) (kmp (by kernel_rfl) (And.intro h1 (And.intro h1 (And.intro h1 (And.intro h1 (And.intro (show (AV.bool (decide (n ≤ b))) = ((AV.bool (r32.v n a b))) by first | (simp only [r32.v, h1, cond_true, cond_false]; done) | (try unfold r32.v; try simp only [h1, cond_true, cond_false]; try rfl; done) | rfl) trivial)))))) h
  | false =>
    have h1p := of_decide_eq_false h1
    exact Ret.of_run1 mix [(AV.bool (r32.v n a b))] Try.func32 rfl [.b false, .b false, .b false, .b false] (by simp) (by simp) (kmp (by kernel_rfl) (And.intro h1 (And.intro h1 (And.intro h1 (And.intro h1 (And.intro (show (AV.bool false) = ((AV.bool (r32.v n a b))) by first | (simp only [r32.v, h1, cond_true, cond_false]; done) | (try unfold r32.v; try simp only [h1, cond_true, cond_false]; try rfl; done) | rfl) trivial)))))) h

noncomputable def r37.v (n : Int) (a : Int) (b : Int) : Bool := (bif decide (n ≥ a) then decide (n ≤ b) else false)

theorem r37 (n : Int) (a : Int) (b : Int) (h : AHeap) : Ret Try.prog 37 ([AV.int IntKind.i64 n, AV.int IntKind.i64 a, AV.int IntKind.i64 b]) h (AV.bool (r37.v n a b)) h := by
  cases h1 : decide (n ≥ a) with
  | true =>
    have h1p := of_decide_eq_true h1
    exact Ret.of_run1 mix [(AV.bool (r37.v n a b))] Try.func37 rfl [.b true, .b true, .b true, .b true] (by simp) (by simp) (kmp (by kernel_rfl) (And.intro h1 (And.intro h1 (And.intro h1 (And.intro h1 (And.intro (show (AV.bool (decide (n ≤ b))) = ((AV.bool (r37.v n a b))) by first | (simp only [r37.v, h1, cond_true, cond_false]; done) | (try unfold r37.v; try simp only [h1, cond_true, cond_false]; try rfl; done) | rfl) trivial)))))) h
  | false =>
    have h1p := of_decide_eq_false h1
    exact Ret.of_run1 mix [(AV.bool (r37.v n a b))] Try.func37 rfl [.b false, .b false, .b false, .b false] (by simp) (by simp) (kmp (by kernel_rfl) (And.intro h1 (And.intro h1 (And.intro h1 (And.intro h1 (And.intro (show (AV.bool false) = ((AV.bool (r37.v n a b))) by first | (simp only [r37.v, h1, cond_true, cond_false]; done) | (try unfold r37.v; try simp only [h1, cond_true, cond_false]; try rfl; done) | rfl) trivial)))))) h

noncomputable def r77.v (n : Int) : Bool := n != n

theorem r77 (n : Int) (h : AHeap) : Ret Try.prog 77 ([AV.int IntKind.i64 n]) h (AV.bool (r77.v n)) h := by
  exact Ret.of_run1 mix [(AV.bool (r77.v n))] Try.func77 rfl [] (by simp) (by simp) (kmp (by kernel_rfl) (And.intro (show (AV.bool (n != n)) = ((AV.bool (r77.v n))) by first | (simp only [r77.v, cond_true, cond_false]; done) | (try unfold r77.v; try rfl; done) | rfl) trivial)) h

noncomputable def r54.v (a : Int) (b : Int) : Int := (bif r77.v a then (bif r77.v b then 0 else -1) else (bif r77.v b then 1 else (bif decide (a < b) then -1 else (bif decide (a > b) then 1 else 0))))

theorem r54 (a : Int) (b : Int) (h : AHeap) : Ret Try.prog 54 ([AV.int IntKind.i64 a, AV.int IntKind.i64 b]) h (AV.int IntKind.i64 (r54.v a b)) h := by
  cases h1 : r77.v a with
  | true =>
    cases h2 : r77.v b with
    | true =>
      exact Ret.of_run1 mix [(AV.int IntKind.i64 (r54.v a b))] Try.func54 rfl [.ret (AV.bool (r77.v a)) ([]), .ret (AV.bool (r77.v b)) ([]), .b true, .b true] (by simp) (by simp) (kmp (by kernel_rfl) (And.intro (r77 (a) ([])) (And.intro (r77 (b) ([])) (And.intro h1 (And.intro h2 (And.intro (show (AV.int IntKind.i64 0) = ((AV.int IntKind.i64 (r54.v a b))) by first | (simp only [r54.v, h1, h2, cond_true, cond_false]; done) | (try unfold r54.v; try simp only [h1, cond_true, cond_false]; try simp only [h2, cond_true, cond_false]; try rfl; done) | rfl) trivial)))))) h
    | false =>
      exact Ret.of_run1 mix [(AV.int IntKind.i64 (r54.v a b))] Try.func54 rfl [.ret (AV.bool (r77.v a)) ([]), .ret (AV.bool (r77.v b)) ([]), .b true, .b false] (by simp) (by simp) (kmp (by kernel_rfl) (And.intro (r77 (a) ([])) (And.intro (r77 (b) ([])) (And.intro h1 (And.intro h2 (And.intro (show (AV.int IntKind.i64 (-1)) = ((AV.int IntKind.i64 (r54.v a b))) by first | (simp only [r54.v, h1, h2, cond_true, cond_false]; done) | (try unfold r54.v; try simp only [h1, cond_true, cond_false]; try simp only [h2, cond_true, cond_false]; try rfl; done) | rfl) trivial)))))) h
  | false =>
    cases h2 : r77.v b with
    | true =>
      exact Ret.of_run1 mix [(AV.int IntKind.i64 (r54.v a b))] Try.func54 rfl [.ret (AV.bool (r77.v a)) ([]), .ret (AV.bool (r77.v b)) ([]), .b false, .b true] (by simp) (by simp) (kmp (by kernel_rfl) (And.intro (r77 (a) ([])) (And.intro (r77 (b) ([])) (And.intro h1 (And.intro h2 (And.intro (show (AV.int IntKind.i64 1) = ((AV.int IntKind.i64 (r54.v a b))) by first | (simp only [r54.v, h1, h2, cond_true, cond_false]; done) | (try unfold r54.v; try simp only [h1, cond_true, cond_false]; try simp only [h2, cond_true, cond_false]; try rfl; done) | rfl) trivial)))))) h
    | false =>
      cases h3 : decide (a < b) with
      | true =>
        have h3p := of_decide_eq_true h3
        exact Ret.of_run1 mix [(AV.int IntKind.i64 (r54.v a b))] Try.func54 rfl [.ret (AV.bool (r77.v a)) ([]), .ret (AV.bool (r77.v b)) ([]), .b false, .b false, .b true] (by simp) (by simp) (kmp (by kernel_rfl) (And.intro (r77 (a) ([])) (And.intro (r77 (b) ([])) (And.intro h1 (And.intro h2 (And.intro h3 (And.intro (show (AV.int IntKind.i64 (-1)) = ((AV.int IntKind.i64 (r54.v a b))) by first | (simp only [r54.v, h1, h2, h3, cond_true, cond_false]; done) | (try unfold r54.v; try simp only [h1, cond_true, cond_false]; try simp only [h2, cond_true, cond_false]; try simp only [h3, cond_true, cond_false]; try rfl; done) | rfl) trivial))))))) h
      | false =>
        have h3p := of_decide_eq_false h3
        cases h4 : decide (a > b) with
        | true =>
          have h4p := of_decide_eq_true h4
          exact Ret.of_run1 mix [(AV.int IntKind.i64 (r54.v a b))] Try.func54 rfl [.ret (AV.bool (r77.v a)) ([]), .ret (AV.bool (r77.v b)) ([]), .b false, .b false, .b false, .b true] (by simp) (by simp) (kmp (by kernel_rfl) (And.intro (r77 (a) ([])) (And.intro (r77 (b) ([])) (And.intro h1 (And.intro h2 (And.intro h3 (And.intro h4 (And.intro (show (AV.int IntKind.i64 1) = ((AV.int IntKind.i64 (r54.v a b))) by first | (simp only [r54.v, h1, h2, h3, h4, cond_true, cond_false]; done) | (try unfold r54.v; try simp only [h1, cond_true, cond_false]; try simp only [h2, cond_true, cond_false]; try simp only [h3, cond_true, cond_false]; try simp only [h4, cond_true, cond_false]; try rfl; done) | rfl) trivial)))))))) h
        | false =>
          have h4p := of_decide_eq_false h4
          exact Ret.of_run1 mix [(AV.int IntKind.i64 (r54.v a b))] Try.func54 rfl [.ret (AV.bool (r77.v a)) ([]), .ret (AV.bool (r77.v b)) ([]), .b false, .b false, .b false, .b false] (by simp) (by simp) (kmp (by kernel_rfl) (And.intro (r77 (a) ([])) (And.intro (r77 (b) ([])) (And.intro h1 (And.intro h2 (And.intro h3 (And.intro h4 (And.intro (show (AV.int IntKind.i64 0) = ((AV.int IntKind.i64 (r54.v a b))) by first | (simp only [r54.v, h1, h2, h3, h4, cond_true, cond_false]; done) | (try unfold r54.v; try simp only [h1, cond_true, cond_false]; try simp only [h2, cond_true, cond_false]; try simp only [h3, cond_true, cond_false]; try simp only [h4, cond_true, cond_false]; try rfl; done) | rfl) trivial)))))))) h

noncomputable def r53.v (s : LD) (t : LD) : Int := r54.v s.lo t.lo

theorem r53 (s : LD) (t : LD) (h : AHeap) : Ret Try.prog 53 ([s.av, t.av]) h (AV.int IntKind.i64 (r53.v s t)) h := by
  exact Ret.of_run1 mix [(AV.int IntKind.i64 (r53.v s t))] Try.func53 rfl [.ret (AV.int IntKind.i64 (r54.v s.lo t.lo)) ([AObj.var (AV.agg [AV.str s.nm, AV.int IntKind.i64 s.lo, AV.int IntKind.i64 s.ln, AV.int IntKind.i64 s.ms]), AObj.var (AV.agg [AV.str t.nm, AV.int IntKind.i64 t.lo, AV.int IntKind.i64 t.ln, AV.int IntKind.i64 t.ms])])] (by simp) (by simp) (kmp (by kernel_rfl) (And.intro (r54 (s.lo) (t.lo) ([AObj.var (AV.agg [AV.str s.nm, AV.int IntKind.i64 s.lo, AV.int IntKind.i64 s.ln, AV.int IntKind.i64 s.ms]), AObj.var (AV.agg [AV.str t.nm, AV.int IntKind.i64 t.lo, AV.int IntKind.i64 t.ln, AV.int IntKind.i64 t.ms])])) (And.intro (show (AV.int IntKind.i64 (r54.v s.lo t.lo)) = ((AV.int IntKind.i64 (r53.v s t))) by first | (simp only [r53.v, cond_true, cond_false]; done) | (try unfold r53.v; try rfl; done) | rfl) trivial))) h

noncomputable def r48.v (s : LD) : Bool := bnot (r38.v s.nm)

theorem r48 (s : LD) (hs : s.nm.size ≤ 9223372036854775807) (h : AHeap) : Ret Try.prog 48 ([s.av]) h (AV.bool (r48.v s)) h := by
  have o0 : s.nm.size ≤ (9223372036854775807 : Nat) := by first | assumption | omega | (simp_all; done)
  exact Ret.of_run1 mix [(AV.bool (r48.v s))] Try.func48 rfl [.ret (AV.bool (r38.v s.nm)) ([AObj.var (AV.agg [AV.str s.nm, AV.int IntKind.i64 s.lo, AV.int IntKind.i64 s.ln, AV.int IntKind.i64 s.ms])])] (by simp) (by simp) (kmp (by kernel_rfl) (And.intro (r38 (s.nm) o0 ([AObj.var (AV.agg [AV.str s.nm, AV.int IntKind.i64 s.lo, AV.int IntKind.i64 s.ln, AV.int IntKind.i64 s.ms])])) (And.intro (show (AV.bool (bnot (r38.v s.nm))) = ((AV.bool (r48.v s))) by first | (simp only [r48.v, cond_true, cond_false]; done) | (try unfold r48.v; try rfl; done) | rfl) trivial))) h

noncomputable def r49.v (s : LD) : Bool := (bif r32.v s.lo 0 50000 then (bif r32.v s.ln 1 50000 then bnot (r32.v s.ms 1 100000000) else true) else true)

noncomputable abbrev r49.h0 (s : LD) : AHeap := ([AObj.var (AV.agg [AV.str s.nm, AV.int IntKind.i64 s.lo, AV.int IntKind.i64 s.ln, AV.int IntKind.i64 s.ms])])

theorem r49 (s : LD) (h : AHeap) : Ret Try.prog 49 ([s.av]) h (AV.bool (r49.v s)) h := by
  cases h1 : r32.v s.lo 0 50000 with
  | true =>
    cases h2 : r32.v s.ln 1 50000 with
    | true =>
      exact Ret.of_run1 mix [(AV.bool (r49.v s))] Try.func49 rfl [.ret (AV.bool (r32.v s.lo 0 50000)) (r49.h0 s), .b false, .b false, .b false, .ret (AV.bool (r32.v s.ln 1 50000)) (r49.h0 s), .b false, .b false, .b false, .b false, .b false, .ret (AV.bool (r32.v s.ms 1 100000000)) (r49.h0 s), .b false, .b false] (by simp) (by simp) (kmp (by kernel_rfl) (And.intro (r32 (s.lo) (0) (50000) (r49.h0 s)) (And.intro (show (bnot (r32.v s.lo 0 50000)) = false by rw [h1]; try rfl) (And.intro (show (bnot (r32.v s.lo 0 50000)) = false by rw [h1]; try rfl) (And.intro (show (bnot (r32.v s.lo 0 50000)) = false by rw [h1]; try rfl) (And.intro (r32 (s.ln) (1) (50000) (r49.h0 s)) (And.intro (show (bnot (r32.v s.lo 0 50000)) = false by rw [h1]; try rfl) (And.intro (show (bnot (r32.v s.lo 0 50000)) = false by rw [h1]; try rfl) (And.intro (show (bnot (r32.v s.ln 1 50000)) = false by rw [h2]; try rfl) (And.intro (show (bnot (r32.v s.ln 1 50000)) = false by rw [h2]; try rfl) (And.intro (show (bnot (r32.v s.ln 1 50000)) = false by rw [h2]; try rfl) (And.intro (r32 (s.ms) (1) (100000000) (r49.h0 s)) (And.intro (show (bnot (r32.v s.ln 1 50000)) = false by rw [h2]; try rfl) (And.intro (show (bnot (r32.v s.ln 1 50000)) = false by rw [h2]; try rfl) (And.intro (show (AV.bool (bnot (r32.v s.ms 1 100000000))) = ((AV.bool (r49.v s))) by first | (simp only [r49.v, h1, h2, cond_true, cond_false]; done) | (try unfold r49.v; try simp only [h1, cond_true, cond_false]; try simp only [h2, cond_true, cond_false]; try rfl; done) | rfl) trivial))))))))))))))) h
    | false =>
      exact Ret.of_run1 mix [(AV.bool (r49.v s))] Try.func49 rfl [.ret (AV.bool (r32.v s.lo 0 50000)) (r49.h0 s), .b false, .b false, .b false, .ret (AV.bool (r32.v s.ln 1 50000)) (r49.h0 s), .b false, .b false, .b true, .b true, .b true, .b true, .b true] (by simp) (by simp) (kmp (by kernel_rfl) (And.intro (r32 (s.lo) (0) (50000) (r49.h0 s)) (And.intro (show (bnot (r32.v s.lo 0 50000)) = false by rw [h1]; try rfl) (And.intro (show (bnot (r32.v s.lo 0 50000)) = false by rw [h1]; try rfl) (And.intro (show (bnot (r32.v s.lo 0 50000)) = false by rw [h1]; try rfl) (And.intro (r32 (s.ln) (1) (50000) (r49.h0 s)) (And.intro (show (bnot (r32.v s.lo 0 50000)) = false by rw [h1]; try rfl) (And.intro (show (bnot (r32.v s.lo 0 50000)) = false by rw [h1]; try rfl) (And.intro (show (bnot (r32.v s.ln 1 50000)) = true by rw [h2]; try rfl) (And.intro (show (bnot (r32.v s.ln 1 50000)) = true by rw [h2]; try rfl) (And.intro (show (bnot (r32.v s.ln 1 50000)) = true by rw [h2]; try rfl) (And.intro (show (bnot (r32.v s.ln 1 50000)) = true by rw [h2]; try rfl) (And.intro (show (bnot (r32.v s.ln 1 50000)) = true by rw [h2]; try rfl) (And.intro (show (AV.bool true) = ((AV.bool (r49.v s))) by first | (simp only [r49.v, h1, h2, cond_true, cond_false]; done) | (try unfold r49.v; try simp only [h1, cond_true, cond_false]; try simp only [h2, cond_true, cond_false]; try rfl; done) | rfl) trivial)))))))))))))) h
  | false =>
    exact Ret.of_run1 mix [(AV.bool (r49.v s))] Try.func49 rfl [.ret (AV.bool (r32.v s.lo 0 50000)) (r49.h0 s), .b true, .b true, .b true, .b true, .b true, .b true, .b true, .b true, .b true, .b true] (by simp) (by simp) (kmp (by kernel_rfl) (And.intro (r32 (s.lo) (0) (50000) (r49.h0 s)) (And.intro (show (bnot (r32.v s.lo 0 50000)) = true by rw [h1]; try rfl) (And.intro (show (bnot (r32.v s.lo 0 50000)) = true by rw [h1]; try rfl) (And.intro (show (bnot (r32.v s.lo 0 50000)) = true by rw [h1]; try rfl) (And.intro (show (bnot (r32.v s.lo 0 50000)) = true by rw [h1]; try rfl) (And.intro (show (bnot (r32.v s.lo 0 50000)) = true by rw [h1]; try rfl) (And.intro (rfl : true = true) (And.intro (rfl : true = true) (And.intro (rfl : true = true) (And.intro (rfl : true = true) (And.intro (rfl : true = true) (And.intro (show (AV.bool true) = ((AV.bool (r49.v s))) by first | (simp only [r49.v, h1, cond_true, cond_false]; done) | (try unfold r49.v; try simp only [h1, cond_true, cond_false]; try rfl; done) | rfl) trivial))))))))))))) h

noncomputable def r16.v (t : TD) : Int := (bif r38.v t.nm then (bif r32.v t.tl 1 50000 then (bif r32.v t.fr (-50000) 50000 then (bif r32.v t.re (-50000) 50000 then (bif r32.v t.l0 1 1000000000 then (bif r32.v t.e0 0 1000000000 then (bif r32.v t.l1 1 1000000000 then (bif r32.v t.e1 0 1000000000 then (bif decide (t.fr ≥ t.re) then 1 else 0) else 6) else 6) else 6) else 6) else 6) else 6) else 6) else 4)

noncomputable abbrev r16.h0 (t : TD) : AHeap := ([AObj.var (AV.agg [AV.str t.nm, AV.int IntKind.i64 t.tl, AV.int IntKind.i64 t.fr, AV.int IntKind.i64 t.re, AV.int IntKind.i64 t.l0, AV.int IntKind.i64 t.l1, AV.int IntKind.i64 t.e0, AV.int IntKind.i64 t.e1])])

theorem r16 (t : TD) (hs : t.nm.size ≤ 9223372036854775807) (h : AHeap) : Ret Try.prog 16 ([t.av]) h (AV.int IntKind.i64 (r16.v t)) h := by
  have o0 : t.nm.size ≤ (9223372036854775807 : Nat) := by first | assumption | omega | (simp_all; done)
  cases h1 : r38.v t.nm with
  | true =>
    cases h2 : r32.v t.tl 1 50000 with
    | true =>
      cases h3 : r32.v t.fr (-50000) 50000 with
      | true =>
        cases h4 : r32.v t.re (-50000) 50000 with
        | true =>
          cases h5 : r32.v t.l0 1 1000000000 with
          | true =>
            cases h6 : r32.v t.e0 0 1000000000 with
            | true =>
              cases h7 : r32.v t.l1 1 1000000000 with
              | true =>
                cases h8 : r32.v t.e1 0 1000000000 with
                | true =>
                  cases h9 : decide (t.fr ≥ t.re) with
                  | true =>
                    have h9p := of_decide_eq_true h9
                    exact Ret.of_run1 mix [(AV.int IntKind.i64 (r16.v t))] Try.func16 rfl [.ret (AV.bool (r38.v t.nm)) (r16.h0 t), .b false, .ret (AV.bool (r32.v t.tl 1 50000)) (r16.h0 t), .b false, .b false, .b false, .ret (AV.bool (r32.v t.fr (-50000) 50000)) (r16.h0 t), .b false, .b false, .b false, .b false, .b false, .ret (AV.bool (r32.v t.re (-50000) 50000)) (r16.h0 t), .b false, .b false, .b false, .rounds 3, .b true, .ret (AV.bool (r32.v t.l0 1 1000000000)) (r16.h0 t), .b false, .b false, .b false, .b false, .b false, .ret (AV.bool (r32.v t.e0 0 1000000000)) (r16.h0 t), .b false, .b false, .b false, .b true, .ret (AV.bool (r32.v t.l1 1 1000000000)) (r16.h0 t), .b false, .b false, .b false, .b false, .b false, .ret (AV.bool (r32.v t.e1 0 1000000000)) (r16.h0 t), .b false, .b false, .b false, .b false, .b true] (by simp) (by simp) (kmp (by kernel_rfl) (And.intro (r38 (t.nm) o0 (r16.h0 t)) (And.intro (show (bnot (r38.v t.nm)) = false by rw [h1]; try rfl) (And.intro (r32 (t.tl) (1) (50000) (r16.h0 t)) (And.intro (show (bnot (r32.v t.tl 1 50000)) = false by rw [h2]; try rfl) (And.intro (show (bnot (r32.v t.tl 1 50000)) = false by rw [h2]; try rfl) (And.intro (show (bnot (r32.v t.tl 1 50000)) = false by rw [h2]; try rfl) (And.intro (r32 (t.fr) (-50000) (50000) (r16.h0 t)) (And.intro (show (bnot (r32.v t.tl 1 50000)) = false by rw [h2]; try rfl) (And.intro (show (bnot (r32.v t.tl 1 50000)) = false by rw [h2]; try rfl) (And.intro (show (bnot (r32.v t.fr (-50000) 50000)) = false by rw [h3]; try rfl) (And.intro (show (bnot (r32.v t.fr (-50000) 50000)) = false by rw [h3]; try rfl) (And.intro (show (bnot (r32.v t.fr (-50000) 50000)) = false by rw [h3]; try rfl) (And.intro (r32 (t.re) (-50000) (50000) (r16.h0 t)) (And.intro (show (bnot (r32.v t.fr (-50000) 50000)) = false by rw [h3]; try rfl) (And.intro (show (bnot (r32.v t.fr (-50000) 50000)) = false by rw [h3]; try rfl) (And.intro (show (bnot (r32.v t.re (-50000) 50000)) = false by rw [h4]; try rfl) (And.intro (rfl : true = true) (And.intro (And.intro (show (0 : Int) ≤ (0 : Int) by first | decide | exact Int.NonNeg.mk _) (show (0 : Int) < (2 : Int) by first | decide | exact Int.NonNeg.mk _)) (And.intro (r32 (t.l0) (1) (1000000000) (r16.h0 t)) (And.intro (show (bnot (r32.v t.l0 1 1000000000)) = false by rw [h5]; try rfl) (And.intro (show (bnot (r32.v t.l0 1 1000000000)) = false by rw [h5]; try rfl) (And.intro (show (bnot (r32.v t.l0 1 1000000000)) = false by rw [h5]; try rfl) (And.intro (And.intro (show (0 : Int) ≤ (0 : Int) by first | decide | exact Int.NonNeg.mk _) (show (0 : Int) < (2 : Int) by first | decide | exact Int.NonNeg.mk _)) (And.intro (show (bnot (r32.v t.l0 1 1000000000)) = false by rw [h5]; try rfl) (And.intro (show (bnot (r32.v t.l0 1 1000000000)) = false by rw [h5]; try rfl) (And.intro (r32 (t.e0) (0) (1000000000) (r16.h0 t)) (And.intro (show (bnot (r32.v t.l0 1 1000000000)) = false by rw [h5]; try rfl) (And.intro (show (bnot (r32.v t.l0 1 1000000000)) = false by rw [h5]; try rfl) (And.intro (show (bnot (r32.v t.e0 0 1000000000)) = false by rw [h6]; try rfl) (And.intro (rfl : true = true) (And.intro (And.intro (show (0 : Int) ≤ (1 : Int) by first | decide | exact Int.NonNeg.mk _) (show (1 : Int) < (2 : Int) by first | decide | exact Int.NonNeg.mk _)) (And.intro (r32 (t.l1) (1) (1000000000) (r16.h0 t)) (And.intro (show (bnot (r32.v t.l1 1 1000000000)) = false by rw [h7]; try rfl) (And.intro (show (bnot (r32.v t.l1 1 1000000000)) = false by rw [h7]; try rfl) (And.intro (show (bnot (r32.v t.l1 1 1000000000)) = false by rw [h7]; try rfl) (And.intro (And.intro (show (0 : Int) ≤ (1 : Int) by first | decide | exact Int.NonNeg.mk _) (show (1 : Int) < (2 : Int) by first | decide | exact Int.NonNeg.mk _)) (And.intro (show (bnot (r32.v t.l1 1 1000000000)) = false by rw [h7]; try rfl) (And.intro (show (bnot (r32.v t.l1 1 1000000000)) = false by rw [h7]; try rfl) (And.intro (r32 (t.e1) (0) (1000000000) (r16.h0 t)) (And.intro (show (bnot (r32.v t.l1 1 1000000000)) = false by rw [h7]; try rfl) (And.intro (show (bnot (r32.v t.l1 1 1000000000)) = false by rw [h7]; try rfl) (And.intro (show (bnot (r32.v t.e1 0 1000000000)) = false by rw [h8]; try rfl) (And.intro (rfl : false = false) (And.intro h9 (And.intro (show (AV.int IntKind.i64 1) = ((AV.int IntKind.i64 (r16.v t))) by first | (simp only [r16.v, h1, h2, h3, h4, h5, h6, h7, h8, h9, cond_true, cond_false]; done) | (try unfold r16.v; try simp only [h1, cond_true, cond_false]; try simp only [h2, cond_true, cond_false]; try simp only [h3, cond_true, cond_false]; try simp only [h4, cond_true, cond_false]; try simp only [h5, cond_true, cond_false]; try simp only [h6, cond_true, cond_false]; try simp only [h7, cond_true, cond_false]; try simp only [h8, cond_true, cond_false]; try simp only [h9, cond_true, cond_false]; try rfl; done) | rfl) trivial)))))))))))))))))))))))))))))))))))))))))))))) h
                  | false =>
                    have h9p := of_decide_eq_false h9
                    exact Ret.of_run1 mix [(AV.int IntKind.i64 (r16.v t))] Try.func16 rfl [.ret (AV.bool (r38.v t.nm)) (r16.h0 t), .b false, .ret (AV.bool (r32.v t.tl 1 50000)) (r16.h0 t), .b false, .b false, .b false, .ret (AV.bool (r32.v t.fr (-50000) 50000)) (r16.h0 t), .b false, .b false, .b false, .b false, .b false, .ret (AV.bool (r32.v t.re (-50000) 50000)) (r16.h0 t), .b false, .b false, .b false, .rounds 3, .b true, .ret (AV.bool (r32.v t.l0 1 1000000000)) (r16.h0 t), .b false, .b false, .b false, .b false, .b false, .ret (AV.bool (r32.v t.e0 0 1000000000)) (r16.h0 t), .b false, .b false, .b false, .b true, .ret (AV.bool (r32.v t.l1 1 1000000000)) (r16.h0 t), .b false, .b false, .b false, .b false, .b false, .ret (AV.bool (r32.v t.e1 0 1000000000)) (r16.h0 t), .b false, .b false, .b false, .b false, .b false] (by simp) (by simp) (kmp (by kernel_rfl) (And.intro (r38 (t.nm) o0 (r16.h0 t)) (And.intro (show (bnot (r38.v t.nm)) = false by rw [h1]; try rfl) (And.intro (r32 (t.tl) (1) (50000) (r16.h0 t)) (And.intro (show (bnot (r32.v t.tl 1 50000)) = false by rw [h2]; try rfl) (And.intro (show (bnot (r32.v t.tl 1 50000)) = false by rw [h2]; try rfl) (And.intro (show (bnot (r32.v t.tl 1 50000)) = false by rw [h2]; try rfl) (And.intro (r32 (t.fr) (-50000) (50000) (r16.h0 t)) (And.intro (show (bnot (r32.v t.tl 1 50000)) = false by rw [h2]; try rfl) (And.intro (show (bnot (r32.v t.tl 1 50000)) = false by rw [h2]; try rfl) (And.intro (show (bnot (r32.v t.fr (-50000) 50000)) = false by rw [h3]; try rfl) (And.intro (show (bnot (r32.v t.fr (-50000) 50000)) = false by rw [h3]; try rfl) (And.intro (show (bnot (r32.v t.fr (-50000) 50000)) = false by rw [h3]; try rfl) (And.intro (r32 (t.re) (-50000) (50000) (r16.h0 t)) (And.intro (show (bnot (r32.v t.fr (-50000) 50000)) = false by rw [h3]; try rfl) (And.intro (show (bnot (r32.v t.fr (-50000) 50000)) = false by rw [h3]; try rfl) (And.intro (show (bnot (r32.v t.re (-50000) 50000)) = false by rw [h4]; try rfl) (And.intro (rfl : true = true) (And.intro (And.intro (show (0 : Int) ≤ (0 : Int) by first | decide | exact Int.NonNeg.mk _) (show (0 : Int) < (2 : Int) by first | decide | exact Int.NonNeg.mk _)) (And.intro (r32 (t.l0) (1) (1000000000) (r16.h0 t)) (And.intro (show (bnot (r32.v t.l0 1 1000000000)) = false by rw [h5]; try rfl) (And.intro (show (bnot (r32.v t.l0 1 1000000000)) = false by rw [h5]; try rfl) (And.intro (show (bnot (r32.v t.l0 1 1000000000)) = false by rw [h5]; try rfl) (And.intro (And.intro (show (0 : Int) ≤ (0 : Int) by first | decide | exact Int.NonNeg.mk _) (show (0 : Int) < (2 : Int) by first | decide | exact Int.NonNeg.mk _)) (And.intro (show (bnot (r32.v t.l0 1 1000000000)) = false by rw [h5]; try rfl) (And.intro (show (bnot (r32.v t.l0 1 1000000000)) = false by rw [h5]; try rfl) (And.intro (r32 (t.e0) (0) (1000000000) (r16.h0 t)) (And.intro (show (bnot (r32.v t.l0 1 1000000000)) = false by rw [h5]; try rfl) (And.intro (show (bnot (r32.v t.l0 1 1000000000)) = false by rw [h5]; try rfl) (And.intro (show (bnot (r32.v t.e0 0 1000000000)) = false by rw [h6]; try rfl) (And.intro (rfl : true = true) (And.intro (And.intro (show (0 : Int) ≤ (1 : Int) by first | decide | exact Int.NonNeg.mk _) (show (1 : Int) < (2 : Int) by first | decide | exact Int.NonNeg.mk _)) (And.intro (r32 (t.l1) (1) (1000000000) (r16.h0 t)) (And.intro (show (bnot (r32.v t.l1 1 1000000000)) = false by rw [h7]; try rfl) (And.intro (show (bnot (r32.v t.l1 1 1000000000)) = false by rw [h7]; try rfl) (And.intro (show (bnot (r32.v t.l1 1 1000000000)) = false by rw [h7]; try rfl) (And.intro (And.intro (show (0 : Int) ≤ (1 : Int) by first | decide | exact Int.NonNeg.mk _) (show (1 : Int) < (2 : Int) by first | decide | exact Int.NonNeg.mk _)) (And.intro (show (bnot (r32.v t.l1 1 1000000000)) = false by rw [h7]; try rfl) (And.intro (show (bnot (r32.v t.l1 1 1000000000)) = false by rw [h7]; try rfl) (And.intro (r32 (t.e1) (0) (1000000000) (r16.h0 t)) (And.intro (show (bnot (r32.v t.l1 1 1000000000)) = false by rw [h7]; try rfl) (And.intro (show (bnot (r32.v t.l1 1 1000000000)) = false by rw [h7]; try rfl) (And.intro (show (bnot (r32.v t.e1 0 1000000000)) = false by rw [h8]; try rfl) (And.intro (rfl : false = false) (And.intro h9 (And.intro (show (AV.int IntKind.i64 0) = ((AV.int IntKind.i64 (r16.v t))) by first | (simp only [r16.v, h1, h2, h3, h4, h5, h6, h7, h8, h9, cond_true, cond_false]; done) | (try unfold r16.v; try simp only [h1, cond_true, cond_false]; try simp only [h2, cond_true, cond_false]; try simp only [h3, cond_true, cond_false]; try simp only [h4, cond_true, cond_false]; try simp only [h5, cond_true, cond_false]; try simp only [h6, cond_true, cond_false]; try simp only [h7, cond_true, cond_false]; try simp only [h8, cond_true, cond_false]; try simp only [h9, cond_true, cond_false]; try rfl; done) | rfl) trivial)))))))))))))))))))))))))))))))))))))))))))))) h
                | false =>
                  exact Ret.of_run1 mix [(AV.int IntKind.i64 (r16.v t))] Try.func16 rfl [.ret (AV.bool (r38.v t.nm)) (r16.h0 t), .b false, .ret (AV.bool (r32.v t.tl 1 50000)) (r16.h0 t), .b false, .b false, .b false, .ret (AV.bool (r32.v t.fr (-50000) 50000)) (r16.h0 t), .b false, .b false, .b false, .b false, .b false, .ret (AV.bool (r32.v t.re (-50000) 50000)) (r16.h0 t), .b false, .b false, .b false, .rounds 3, .b true, .ret (AV.bool (r32.v t.l0 1 1000000000)) (r16.h0 t), .b false, .b false, .b false, .b false, .b false, .ret (AV.bool (r32.v t.e0 0 1000000000)) (r16.h0 t), .b false, .b false, .b false, .b true, .ret (AV.bool (r32.v t.l1 1 1000000000)) (r16.h0 t), .b false, .b false, .b false, .b false, .b false, .ret (AV.bool (r32.v t.e1 0 1000000000)) (r16.h0 t), .b false, .b false, .b true] (by simp) (by simp) (kmp (by kernel_rfl) (And.intro (r38 (t.nm) o0 (r16.h0 t)) (And.intro (show (bnot (r38.v t.nm)) = false by rw [h1]; try rfl) (And.intro (r32 (t.tl) (1) (50000) (r16.h0 t)) (And.intro (show (bnot (r32.v t.tl 1 50000)) = false by rw [h2]; try rfl) (And.intro (show (bnot (r32.v t.tl 1 50000)) = false by rw [h2]; try rfl) (And.intro (show (bnot (r32.v t.tl 1 50000)) = false by rw [h2]; try rfl) (And.intro (r32 (t.fr) (-50000) (50000) (r16.h0 t)) (And.intro (show (bnot (r32.v t.tl 1 50000)) = false by rw [h2]; try rfl) (And.intro (show (bnot (r32.v t.tl 1 50000)) = false by rw [h2]; try rfl) (And.intro (show (bnot (r32.v t.fr (-50000) 50000)) = false by rw [h3]; try rfl) (And.intro (show (bnot (r32.v t.fr (-50000) 50000)) = false by rw [h3]; try rfl) (And.intro (show (bnot (r32.v t.fr (-50000) 50000)) = false by rw [h3]; try rfl) (And.intro (r32 (t.re) (-50000) (50000) (r16.h0 t)) (And.intro (show (bnot (r32.v t.fr (-50000) 50000)) = false by rw [h3]; try rfl) (And.intro (show (bnot (r32.v t.fr (-50000) 50000)) = false by rw [h3]; try rfl) (And.intro (show (bnot (r32.v t.re (-50000) 50000)) = false by rw [h4]; try rfl) (And.intro (rfl : true = true) (And.intro (And.intro (show (0 : Int) ≤ (0 : Int) by first | decide | exact Int.NonNeg.mk _) (show (0 : Int) < (2 : Int) by first | decide | exact Int.NonNeg.mk _)) (And.intro (r32 (t.l0) (1) (1000000000) (r16.h0 t)) (And.intro (show (bnot (r32.v t.l0 1 1000000000)) = false by rw [h5]; try rfl) (And.intro (show (bnot (r32.v t.l0 1 1000000000)) = false by rw [h5]; try rfl) (And.intro (show (bnot (r32.v t.l0 1 1000000000)) = false by rw [h5]; try rfl) (And.intro (And.intro (show (0 : Int) ≤ (0 : Int) by first | decide | exact Int.NonNeg.mk _) (show (0 : Int) < (2 : Int) by first | decide | exact Int.NonNeg.mk _)) (And.intro (show (bnot (r32.v t.l0 1 1000000000)) = false by rw [h5]; try rfl) (And.intro (show (bnot (r32.v t.l0 1 1000000000)) = false by rw [h5]; try rfl) (And.intro (r32 (t.e0) (0) (1000000000) (r16.h0 t)) (And.intro (show (bnot (r32.v t.l0 1 1000000000)) = false by rw [h5]; try rfl) (And.intro (show (bnot (r32.v t.l0 1 1000000000)) = false by rw [h5]; try rfl) (And.intro (show (bnot (r32.v t.e0 0 1000000000)) = false by rw [h6]; try rfl) (And.intro (rfl : true = true) (And.intro (And.intro (show (0 : Int) ≤ (1 : Int) by first | decide | exact Int.NonNeg.mk _) (show (1 : Int) < (2 : Int) by first | decide | exact Int.NonNeg.mk _)) (And.intro (r32 (t.l1) (1) (1000000000) (r16.h0 t)) (And.intro (show (bnot (r32.v t.l1 1 1000000000)) = false by rw [h7]; try rfl) (And.intro (show (bnot (r32.v t.l1 1 1000000000)) = false by rw [h7]; try rfl) (And.intro (show (bnot (r32.v t.l1 1 1000000000)) = false by rw [h7]; try rfl) (And.intro (And.intro (show (0 : Int) ≤ (1 : Int) by first | decide | exact Int.NonNeg.mk _) (show (1 : Int) < (2 : Int) by first | decide | exact Int.NonNeg.mk _)) (And.intro (show (bnot (r32.v t.l1 1 1000000000)) = false by rw [h7]; try rfl) (And.intro (show (bnot (r32.v t.l1 1 1000000000)) = false by rw [h7]; try rfl) (And.intro (r32 (t.e1) (0) (1000000000) (r16.h0 t)) (And.intro (show (bnot (r32.v t.l1 1 1000000000)) = false by rw [h7]; try rfl) (And.intro (show (bnot (r32.v t.l1 1 1000000000)) = false by rw [h7]; try rfl) (And.intro (show (bnot (r32.v t.e1 0 1000000000)) = true by rw [h8]; try rfl) (And.intro (show (AV.int IntKind.i64 6) = ((AV.int IntKind.i64 (r16.v t))) by first | (simp only [r16.v, h1, h2, h3, h4, h5, h6, h7, h8, cond_true, cond_false]; done) | (try unfold r16.v; try simp only [h1, cond_true, cond_false]; try simp only [h2, cond_true, cond_false]; try simp only [h3, cond_true, cond_false]; try simp only [h4, cond_true, cond_false]; try simp only [h5, cond_true, cond_false]; try simp only [h6, cond_true, cond_false]; try simp only [h7, cond_true, cond_false]; try simp only [h8, cond_true, cond_false]; try rfl; done) | rfl) trivial)))))))))))))))))))))))))))))))))))))))))))) h
              | false =>
                exact Ret.of_run1 mix [(AV.int IntKind.i64 (r16.v t))] Try.func16 rfl [.ret (AV.bool (r38.v t.nm)) (r16.h0 t), .b false, .ret (AV.bool (r32.v t.tl 1 50000)) (r16.h0 t), .b false, .b false, .b false, .ret (AV.bool (r32.v t.fr (-50000) 50000)) (r16.h0 t), .b false, .b false, .b false, .b false, .b false, .ret (AV.bool (r32.v t.re (-50000) 50000)) (r16.h0 t), .b false, .b false, .b false, .rounds 3, .b true, .ret (AV.bool (r32.v t.l0 1 1000000000)) (r16.h0 t), .b false, .b false, .b false, .b false, .b false, .ret (AV.bool (r32.v t.e0 0 1000000000)) (r16.h0 t), .b false, .b false, .b false, .b true, .ret (AV.bool (r32.v t.l1 1 1000000000)) (r16.h0 t), .b true, .b true, .b true, .b true, .b true, .b true, .b true, .b true] (by simp) (by simp) (kmp (by kernel_rfl) (And.intro (r38 (t.nm) o0 (r16.h0 t)) (And.intro (show (bnot (r38.v t.nm)) = false by rw [h1]; try rfl) (And.intro (r32 (t.tl) (1) (50000) (r16.h0 t)) (And.intro (show (bnot (r32.v t.tl 1 50000)) = false by rw [h2]; try rfl) (And.intro (show (bnot (r32.v t.tl 1 50000)) = false by rw [h2]; try rfl) (And.intro (show (bnot (r32.v t.tl 1 50000)) = false by rw [h2]; try rfl) (And.intro (r32 (t.fr) (-50000) (50000) (r16.h0 t)) (And.intro (show (bnot (r32.v t.tl 1 50000)) = false by rw [h2]; try rfl) (And.intro (show (bnot (r32.v t.tl 1 50000)) = false by rw [h2]; try rfl) (And.intro (show (bnot (r32.v t.fr (-50000) 50000)) = false by rw [h3]; try rfl) (And.intro (show (bnot (r32.v t.fr (-50000) 50000)) = false by rw [h3]; try rfl) (And.intro (show (bnot (r32.v t.fr (-50000) 50000)) = false by rw [h3]; try rfl) (And.intro (r32 (t.re) (-50000) (50000) (r16.h0 t)) (And.intro (show (bnot (r32.v t.fr (-50000) 50000)) = false by rw [h3]; try rfl) (And.intro (show (bnot (r32.v t.fr (-50000) 50000)) = false by rw [h3]; try rfl) (And.intro (show (bnot (r32.v t.re (-50000) 50000)) = false by rw [h4]; try rfl) (And.intro (rfl : true = true) (And.intro (And.intro (show (0 : Int) ≤ (0 : Int) by first | decide | exact Int.NonNeg.mk _) (show (0 : Int) < (2 : Int) by first | decide | exact Int.NonNeg.mk _)) (And.intro (r32 (t.l0) (1) (1000000000) (r16.h0 t)) (And.intro (show (bnot (r32.v t.l0 1 1000000000)) = false by rw [h5]; try rfl) (And.intro (show (bnot (r32.v t.l0 1 1000000000)) = false by rw [h5]; try rfl) (And.intro (show (bnot (r32.v t.l0 1 1000000000)) = false by rw [h5]; try rfl) (And.intro (And.intro (show (0 : Int) ≤ (0 : Int) by first | decide | exact Int.NonNeg.mk _) (show (0 : Int) < (2 : Int) by first | decide | exact Int.NonNeg.mk _)) (And.intro (show (bnot (r32.v t.l0 1 1000000000)) = false by rw [h5]; try rfl) (And.intro (show (bnot (r32.v t.l0 1 1000000000)) = false by rw [h5]; try rfl) (And.intro (r32 (t.e0) (0) (1000000000) (r16.h0 t)) (And.intro (show (bnot (r32.v t.l0 1 1000000000)) = false by rw [h5]; try rfl) (And.intro (show (bnot (r32.v t.l0 1 1000000000)) = false by rw [h5]; try rfl) (And.intro (show (bnot (r32.v t.e0 0 1000000000)) = false by rw [h6]; try rfl) (And.intro (rfl : true = true) (And.intro (And.intro (show (0 : Int) ≤ (1 : Int) by first | decide | exact Int.NonNeg.mk _) (show (1 : Int) < (2 : Int) by first | decide | exact Int.NonNeg.mk _)) (And.intro (r32 (t.l1) (1) (1000000000) (r16.h0 t)) (And.intro (show (bnot (r32.v t.l1 1 1000000000)) = true by rw [h7]; try rfl) (And.intro (show (bnot (r32.v t.l1 1 1000000000)) = true by rw [h7]; try rfl) (And.intro (show (bnot (r32.v t.l1 1 1000000000)) = true by rw [h7]; try rfl) (And.intro (show (bnot (r32.v t.l1 1 1000000000)) = true by rw [h7]; try rfl) (And.intro (show (bnot (r32.v t.l1 1 1000000000)) = true by rw [h7]; try rfl) (And.intro (show (bnot (r32.v t.l1 1 1000000000)) = true by rw [h7]; try rfl) (And.intro (show (bnot (r32.v t.l1 1 1000000000)) = true by rw [h7]; try rfl) (And.intro (rfl : true = true) (And.intro (show (AV.int IntKind.i64 6) = ((AV.int IntKind.i64 (r16.v t))) by first | (simp only [r16.v, h1, h2, h3, h4, h5, h6, h7, cond_true, cond_false]; done) | (try unfold r16.v; try simp only [h1, cond_true, cond_false]; try simp only [h2, cond_true, cond_false]; try simp only [h3, cond_true, cond_false]; try simp only [h4, cond_true, cond_false]; try simp only [h5, cond_true, cond_false]; try simp only [h6, cond_true, cond_false]; try simp only [h7, cond_true, cond_false]; try rfl; done) | rfl) trivial)))))))))))))))))))))))))))))))))))))))))) h
            | false =>
              exact Ret.of_run1 mix [(AV.int IntKind.i64 (r16.v t))] Try.func16 rfl [.ret (AV.bool (r38.v t.nm)) (r16.h0 t), .b false, .ret (AV.bool (r32.v t.tl 1 50000)) (r16.h0 t), .b false, .b false, .b false, .ret (AV.bool (r32.v t.fr (-50000) 50000)) (r16.h0 t), .b false, .b false, .b false, .b false, .b false, .ret (AV.bool (r32.v t.re (-50000) 50000)) (r16.h0 t), .b false, .b false, .b false, .rounds 3, .b true, .ret (AV.bool (r32.v t.l0 1 1000000000)) (r16.h0 t), .b false, .b false, .b false, .b false, .b false, .ret (AV.bool (r32.v t.e0 0 1000000000)) (r16.h0 t), .b false, .b false, .b true] (by simp) (by simp) (kmp (by kernel_rfl) (And.intro (r38 (t.nm) o0 (r16.h0 t)) (And.intro (show (bnot (r38.v t.nm)) = false by rw [h1]; try rfl) (And.intro (r32 (t.tl) (1) (50000) (r16.h0 t)) (And.intro (show (bnot (r32.v t.tl 1 50000)) = false by rw [h2]; try rfl) (And.intro (show (bnot (r32.v t.tl 1 50000)) = false by rw [h2]; try rfl) (And.intro (show (bnot (r32.v t.tl 1 50000)) = false by rw [h2]; try rfl) (And.intro (r32 (t.fr) (-50000) (50000) (r16.h0 t)) (And.intro (show (bnot (r32.v t.tl 1 50000)) = false by rw [h2]; try rfl) (And.intro (show (bnot (r32.v t.tl 1 50000)) = false by rw [h2]; try rfl) (And.intro (show (bnot (r32.v t.fr (-50000) 50000)) = false by rw [h3]; try rfl) (And.intro (show (bnot (r32.v t.fr (-50000) 50000)) = false by rw [h3]; try rfl) (And.intro (show (bnot (r32.v t.fr (-50000) 50000)) = false by rw [h3]; try rfl) (And.intro (r32 (t.re) (-50000) (50000) (r16.h0 t)) (And.intro (show (bnot (r32.v t.fr (-50000) 50000)) = false by rw [h3]; try rfl) (And.intro (show (bnot (r32.v t.fr (-50000) 50000)) = false by rw [h3]; try rfl) (And.intro (show (bnot (r32.v t.re (-50000) 50000)) = false by rw [h4]; try rfl) (And.intro (rfl : true = true) (And.intro (And.intro (show (0 : Int) ≤ (0 : Int) by first | decide | exact Int.NonNeg.mk _) (show (0 : Int) < (2 : Int) by first | decide | exact Int.NonNeg.mk _)) (And.intro (r32 (t.l0) (1) (1000000000) (r16.h0 t)) (And.intro (show (bnot (r32.v t.l0 1 1000000000)) = false by rw [h5]; try rfl) (And.intro (show (bnot (r32.v t.l0 1 1000000000)) = false by rw [h5]; try rfl) (And.intro (show (bnot (r32.v t.l0 1 1000000000)) = false by rw [h5]; try rfl) (And.intro (And.intro (show (0 : Int) ≤ (0 : Int) by first | decide | exact Int.NonNeg.mk _) (show (0 : Int) < (2 : Int) by first | decide | exact Int.NonNeg.mk _)) (And.intro (show (bnot (r32.v t.l0 1 1000000000)) = false by rw [h5]; try rfl) (And.intro (show (bnot (r32.v t.l0 1 1000000000)) = false by rw [h5]; try rfl) (And.intro (r32 (t.e0) (0) (1000000000) (r16.h0 t)) (And.intro (show (bnot (r32.v t.l0 1 1000000000)) = false by rw [h5]; try rfl) (And.intro (show (bnot (r32.v t.l0 1 1000000000)) = false by rw [h5]; try rfl) (And.intro (show (bnot (r32.v t.e0 0 1000000000)) = true by rw [h6]; try rfl) (And.intro (show (AV.int IntKind.i64 6) = ((AV.int IntKind.i64 (r16.v t))) by first | (simp only [r16.v, h1, h2, h3, h4, h5, h6, cond_true, cond_false]; done) | (try unfold r16.v; try simp only [h1, cond_true, cond_false]; try simp only [h2, cond_true, cond_false]; try simp only [h3, cond_true, cond_false]; try simp only [h4, cond_true, cond_false]; try simp only [h5, cond_true, cond_false]; try simp only [h6, cond_true, cond_false]; try rfl; done) | rfl) trivial))))))))))))))))))))))))))))))) h
          | false =>
            exact Ret.of_run1 mix [(AV.int IntKind.i64 (r16.v t))] Try.func16 rfl [.ret (AV.bool (r38.v t.nm)) (r16.h0 t), .b false, .ret (AV.bool (r32.v t.tl 1 50000)) (r16.h0 t), .b false, .b false, .b false, .ret (AV.bool (r32.v t.fr (-50000) 50000)) (r16.h0 t), .b false, .b false, .b false, .b false, .b false, .ret (AV.bool (r32.v t.re (-50000) 50000)) (r16.h0 t), .b false, .b false, .b false, .rounds 3, .b true, .ret (AV.bool (r32.v t.l0 1 1000000000)) (r16.h0 t), .b true, .b true, .b true, .b true, .b true, .b true, .b true, .b true] (by simp) (by simp) (kmp (by kernel_rfl) (And.intro (r38 (t.nm) o0 (r16.h0 t)) (And.intro (show (bnot (r38.v t.nm)) = false by rw [h1]; try rfl) (And.intro (r32 (t.tl) (1) (50000) (r16.h0 t)) (And.intro (show (bnot (r32.v t.tl 1 50000)) = false by rw [h2]; try rfl) (And.intro (show (bnot (r32.v t.tl 1 50000)) = false by rw [h2]; try rfl) (And.intro (show (bnot (r32.v t.tl 1 50000)) = false by rw [h2]; try rfl) (And.intro (r32 (t.fr) (-50000) (50000) (r16.h0 t)) (And.intro (show (bnot (r32.v t.tl 1 50000)) = false by rw [h2]; try rfl) (And.intro (show (bnot (r32.v t.tl 1 50000)) = false by rw [h2]; try rfl) (And.intro (show (bnot (r32.v t.fr (-50000) 50000)) = false by rw [h3]; try rfl) (And.intro (show (bnot (r32.v t.fr (-50000) 50000)) = false by rw [h3]; try rfl) (And.intro (show (bnot (r32.v t.fr (-50000) 50000)) = false by rw [h3]; try rfl) (And.intro (r32 (t.re) (-50000) (50000) (r16.h0 t)) (And.intro (show (bnot (r32.v t.fr (-50000) 50000)) = false by rw [h3]; try rfl) (And.intro (show (bnot (r32.v t.fr (-50000) 50000)) = false by rw [h3]; try rfl) (And.intro (show (bnot (r32.v t.re (-50000) 50000)) = false by rw [h4]; try rfl) (And.intro (rfl : true = true) (And.intro (And.intro (show (0 : Int) ≤ (0 : Int) by first | decide | exact Int.NonNeg.mk _) (show (0 : Int) < (2 : Int) by first | decide | exact Int.NonNeg.mk _)) (And.intro (r32 (t.l0) (1) (1000000000) (r16.h0 t)) (And.intro (show (bnot (r32.v t.l0 1 1000000000)) = true by rw [h5]; try rfl) (And.intro (show (bnot (r32.v t.l0 1 1000000000)) = true by rw [h5]; try rfl) (And.intro (show (bnot (r32.v t.l0 1 1000000000)) = true by rw [h5]; try rfl) (And.intro (show (bnot (r32.v t.l0 1 1000000000)) = true by rw [h5]; try rfl) (And.intro (show (bnot (r32.v t.l0 1 1000000000)) = true by rw [h5]; try rfl) (And.intro (show (bnot (r32.v t.l0 1 1000000000)) = true by rw [h5]; try rfl) (And.intro (show (bnot (r32.v t.l0 1 1000000000)) = true by rw [h5]; try rfl) (And.intro (rfl : true = true) (And.intro (show (AV.int IntKind.i64 6) = ((AV.int IntKind.i64 (r16.v t))) by first | (simp only [r16.v, h1, h2, h3, h4, h5, cond_true, cond_false]; done) | (try unfold r16.v; try simp only [h1, cond_true, cond_false]; try simp only [h2, cond_true, cond_false]; try simp only [h3, cond_true, cond_false]; try simp only [h4, cond_true, cond_false]; try simp only [h5, cond_true, cond_false]; try rfl; done) | rfl) trivial))))))))))))))))))))))))))))) h
        | false =>
          exact Ret.of_run1 mix [(AV.int IntKind.i64 (r16.v t))] Try.func16 rfl [.ret (AV.bool (r38.v t.nm)) (r16.h0 t), .b false, .ret (AV.bool (r32.v t.tl 1 50000)) (r16.h0 t), .b false, .b false, .b false, .ret (AV.bool (r32.v t.fr (-50000) 50000)) (r16.h0 t), .b false, .b false, .b false, .b false, .b false, .ret (AV.bool (r32.v t.re (-50000) 50000)) (r16.h0 t), .b false, .b false, .b true] (by simp) (by simp) (kmp (by kernel_rfl) (And.intro (r38 (t.nm) o0 (r16.h0 t)) (And.intro (show (bnot (r38.v t.nm)) = false by rw [h1]; try rfl) (And.intro (r32 (t.tl) (1) (50000) (r16.h0 t)) (And.intro (show (bnot (r32.v t.tl 1 50000)) = false by rw [h2]; try rfl) (And.intro (show (bnot (r32.v t.tl 1 50000)) = false by rw [h2]; try rfl) (And.intro (show (bnot (r32.v t.tl 1 50000)) = false by rw [h2]; try rfl) (And.intro (r32 (t.fr) (-50000) (50000) (r16.h0 t)) (And.intro (show (bnot (r32.v t.tl 1 50000)) = false by rw [h2]; try rfl) (And.intro (show (bnot (r32.v t.tl 1 50000)) = false by rw [h2]; try rfl) (And.intro (show (bnot (r32.v t.fr (-50000) 50000)) = false by rw [h3]; try rfl) (And.intro (show (bnot (r32.v t.fr (-50000) 50000)) = false by rw [h3]; try rfl) (And.intro (show (bnot (r32.v t.fr (-50000) 50000)) = false by rw [h3]; try rfl) (And.intro (r32 (t.re) (-50000) (50000) (r16.h0 t)) (And.intro (show (bnot (r32.v t.fr (-50000) 50000)) = false by rw [h3]; try rfl) (And.intro (show (bnot (r32.v t.fr (-50000) 50000)) = false by rw [h3]; try rfl) (And.intro (show (bnot (r32.v t.re (-50000) 50000)) = true by rw [h4]; try rfl) (And.intro (show (AV.int IntKind.i64 6) = ((AV.int IntKind.i64 (r16.v t))) by first | (simp only [r16.v, h1, h2, h3, h4, cond_true, cond_false]; done) | (try unfold r16.v; try simp only [h1, cond_true, cond_false]; try simp only [h2, cond_true, cond_false]; try simp only [h3, cond_true, cond_false]; try simp only [h4, cond_true, cond_false]; try rfl; done) | rfl) trivial)))))))))))))))))) h
      | false =>
        exact Ret.of_run1 mix [(AV.int IntKind.i64 (r16.v t))] Try.func16 rfl [.ret (AV.bool (r38.v t.nm)) (r16.h0 t), .b false, .ret (AV.bool (r32.v t.tl 1 50000)) (r16.h0 t), .b false, .b false, .b false, .ret (AV.bool (r32.v t.fr (-50000) 50000)) (r16.h0 t), .b false, .b false, .b true, .b true, .b true, .b true, .b true, .b true] (by simp) (by simp) (kmp (by kernel_rfl) (And.intro (r38 (t.nm) o0 (r16.h0 t)) (And.intro (show (bnot (r38.v t.nm)) = false by rw [h1]; try rfl) (And.intro (r32 (t.tl) (1) (50000) (r16.h0 t)) (And.intro (show (bnot (r32.v t.tl 1 50000)) = false by rw [h2]; try rfl) (And.intro (show (bnot (r32.v t.tl 1 50000)) = false by rw [h2]; try rfl) (And.intro (show (bnot (r32.v t.tl 1 50000)) = false by rw [h2]; try rfl) (And.intro (r32 (t.fr) (-50000) (50000) (r16.h0 t)) (And.intro (show (bnot (r32.v t.tl 1 50000)) = false by rw [h2]; try rfl) (And.intro (show (bnot (r32.v t.tl 1 50000)) = false by rw [h2]; try rfl) (And.intro (show (bnot (r32.v t.fr (-50000) 50000)) = true by rw [h3]; try rfl) (And.intro (show (bnot (r32.v t.fr (-50000) 50000)) = true by rw [h3]; try rfl) (And.intro (show (bnot (r32.v t.fr (-50000) 50000)) = true by rw [h3]; try rfl) (And.intro (show (bnot (r32.v t.fr (-50000) 50000)) = true by rw [h3]; try rfl) (And.intro (show (bnot (r32.v t.fr (-50000) 50000)) = true by rw [h3]; try rfl) (And.intro (rfl : true = true) (And.intro (show (AV.int IntKind.i64 6) = ((AV.int IntKind.i64 (r16.v t))) by first | (simp only [r16.v, h1, h2, h3, cond_true, cond_false]; done) | (try unfold r16.v; try simp only [h1, cond_true, cond_false]; try simp only [h2, cond_true, cond_false]; try simp only [h3, cond_true, cond_false]; try rfl; done) | rfl) trivial))))))))))))))))) h
    | false =>
      exact Ret.of_run1 mix [(AV.int IntKind.i64 (r16.v t))] Try.func16 rfl [.ret (AV.bool (r38.v t.nm)) (r16.h0 t), .b false, .ret (AV.bool (r32.v t.tl 1 50000)) (r16.h0 t), .b true, .b true, .b true, .b true, .b true, .b true, .b true, .b true, .b true, .b true, .b true] (by simp) (by simp) (kmp (by kernel_rfl) (And.intro (r38 (t.nm) o0 (r16.h0 t)) (And.intro (show (bnot (r38.v t.nm)) = false by rw [h1]; try rfl) (And.intro (r32 (t.tl) (1) (50000) (r16.h0 t)) (And.intro (show (bnot (r32.v t.tl 1 50000)) = true by rw [h2]; try rfl) (And.intro (show (bnot (r32.v t.tl 1 50000)) = true by rw [h2]; try rfl) (And.intro (show (bnot (r32.v t.tl 1 50000)) = true by rw [h2]; try rfl) (And.intro (show (bnot (r32.v t.tl 1 50000)) = true by rw [h2]; try rfl) (And.intro (show (bnot (r32.v t.tl 1 50000)) = true by rw [h2]; try rfl) (And.intro (rfl : true = true) (And.intro (rfl : true = true) (And.intro (rfl : true = true) (And.intro (rfl : true = true) (And.intro (rfl : true = true) (And.intro (rfl : true = true) (And.intro (show (AV.int IntKind.i64 6) = ((AV.int IntKind.i64 (r16.v t))) by first | (simp only [r16.v, h1, h2, cond_true, cond_false]; done) | (try unfold r16.v; try simp only [h1, cond_true, cond_false]; try simp only [h2, cond_true, cond_false]; try rfl; done) | rfl) trivial)))))))))))))))) h
  | false =>
    exact Ret.of_run1 mix [(AV.int IntKind.i64 (r16.v t))] Try.func16 rfl [.ret (AV.bool (r38.v t.nm)) (r16.h0 t), .b true] (by simp) (by simp) (kmp (by kernel_rfl) (And.intro (r38 (t.nm) o0 (r16.h0 t)) (And.intro (show (bnot (r38.v t.nm)) = true by rw [h1]; try rfl) (And.intro (show (AV.int IntKind.i64 4) = ((AV.int IntKind.i64 (r16.v t))) by first | (simp only [r16.v, h1, cond_true, cond_false]; done) | (try unfold r16.v; try simp only [h1, cond_true, cond_false]; try rfl; done) | rfl) trivial)))) h

end Go.Proofs.Ytngpbfocjgikaaa

open Go

namespace Go.Proofs.Ytngpbfocjgikaaa

open Go.ChangeShapes Go.WideShapes Go.ChangeAt Go.RowKit

theorem own : ownKnob Try.prog.godebug = none := by kernel_rfl

theorem laidOut : laidOutB Try.prog = true := by kernel_rfl

/-- A load with a name that fits into memory. -/
abbrev LDf : Type := { s : LD // s.nm.size ≤ 9223372036854775807 }

instance : Inhabited LDf := ⟨⟨⟨ByteArray.empty, 0, 0, 0⟩, by decide⟩⟩

theorem lf_load {P : Program} {cs : List AV} (h : LfFits P [.str, .int .i64, .int .i64, .int .i64] cs) : ∃ s : LDf, ImpL cs s.1.av.cells := by
  obtain ⟨nm, _, rfl, h1, x, _, rfl, _, y, _, rfl, _, z, _, rfl, _, rfl⟩ := h
  exact ⟨⟨⟨nm, x, y, z⟩, le_max h1⟩, .cons (.refl _) (.cons (.refl _) (.cons (.refl _) (.cons (.refl _) .nil)))⟩

set_option maxRecDepth 100000 in
theorem flat35 : flat Try.prog 4 35 = some [.str, .int .i64, .int .i64, .int .i64] := by kernel_rfl

theorem lf_sl {P : Program} {k e sz : Nat} {a : AV} (h : LfFits P [.sl k e sz] [a]) : ∃ n f, a = .sl sz n f ∧ n ≤ maxLen ∧ ∀ i, i < n → Fits P k e (f i).cells := by
  obtain ⟨n, f, _, e, h1, h2, rfl⟩ := h
  cases e
  exact ⟨n, f, rfl, h1, h2⟩

set_option maxRecDepth 100000 in
theorem arg_loads {a : AV} (h : FitsV Try.prog 5 25 a) : ∃ (n : Nat) (g : Nat → LD), n ≤ 9223372036854775807 ∧ (∀ i, (g i).nm.size ≤ 9223372036854775807) ∧ Imp a (lds n g) := by
  obtain ⟨n, f, e, h1, h2⟩ := lf_sl (fitsV_one (by kernel_rfl) (by kernel_rfl : flat Try.prog 5 25 = some [.sl 4 35 4]) h)
  obtain ⟨g, hg⟩ := imp_structs (D := LDf) (fun s => s.1.av) (sz := 4) flat35 (fun cs hc => lf_load hc) h2
  rw [e]
  exact ⟨n, fun i => (g i).1, le_max h1, fun i => (g i).2, hg⟩

end Go.Proofs.Ytngpbfocjgikaaa

open Go

namespace Go.Proofs.Ytngpbfocjgikaaa

set_option linter.unusedSimpArgs false

set_option linter.unusedVariables false

set_option maxHeartbeats 0

set_option maxRecDepth 100000

inductive L20a.O where
  | e0 (a0 : Int)

noncomputable def L20a.T (n : Nat) (g : Nat → LD) (a3 : Int) (a4 : Int) : List AV := mkT 19 [(0, AV.sl 4 n fun (i : Nat) => AV.agg [AV.str (g i).nm, AV.int IntKind.i64 (g i).lo, AV.int IntKind.i64 (g i).ln, AV.int IntKind.i64 (g i).ms]), (3, AV.int IntKind.i64 a3), (4, AV.int IntKind.i64 a4)]

noncomputable def L20a.H (n : Nat) (g : Nat → LD) (a3 : Int) (a4 : Int) : AHeap := []

def L20a.inv (n : Nat) (g : Nat → LD) (a3 : Int) (a4 : Int) : Prop := 0 ≤ a4 ∧ (a4 ≤ (↑n : Int) ∨ a4 ≤ 0)

noncomputable def L20a.mu (n : Nat) (g : Nat → LD) (a3 : Int) (a4 : Int) : Nat := ((↑n : Int) - a4).toNat

noncomputable def L20a.E : L20a.O → Exit
  | .e0 a0 => Exit.exit 0

noncomputable def L20a.X (n : Nat) (g : Nat → LD) : L20a.O → List AV
  | .e0 a0 => mkT 19 [(3, (AV.int IntKind.i64 a0))]

noncomputable def L20a.XH (n : Nat) (g : Nat → LD) : L20a.O → AHeap
  | .e0 a0 => ([])

noncomputable def L20a.N (n : Nat) (g : Nat → LD) : Nat → Int → Int → L20a.O
  | 0, a3, _ => .e0 a3
  | k_ + 1, a3, a4 => (bif decide (a4 < (↑n : Int)) then (L20a.N n g k_ (IntKind.i64.wrap (a3 + (g a4.toNat).ms)) (IntKind.i64.wrap (a4 + 1))) else (.e0 (a3)))

noncomputable def L20a.run (n : Nat) (g : Nat → LD) (a3 : Int) (a4 : Int) : L20a.O := L20a.N n g ((((↑n : Int) - a4).toNat) + 1) a3 a4

theorem L20a.nx (n : Nat) (g : Nat → LD) {k_ : Nat} {z_ : Int × Int} {h_ : AHeap} (s_ : Int × Int) (h1 : L20a.inv n g s_.1 s_.2) (h2 : L20a.mu n g s_.1 s_.2 < L20a.mu n g z_.1 z_.2) (h3 : L20a.N n g k_ s_.1 s_.2 = L20a.N n g (k_ + 1) z_.1 z_.2) (h4 : PopOk (L20a.H n g z_.1 z_.2) h_ (L20a.T n g s_.1 s_.2) (L20a.H n g s_.1 s_.2)) : LNextP (fun (z_ : Int × Int) => L20a.T n g z_.1 z_.2) (fun (z_ : Int × Int) => L20a.H n g z_.1 z_.2) (fun (z_ : Int × Int) => L20a.inv n g z_.1 z_.2) (fun (z_ : Int × Int) => L20a.mu n g z_.1 z_.2) (fun (k_ : Nat) (z_ : Int × Int) => L20a.N n g k_ z_.1 z_.2) k_ z_ (L20a.T n g s_.1 s_.2) h_ := LNextP.mk (Tm := (fun (z_ : Int × Int) => L20a.T n g z_.1 z_.2)) (Hp := (fun (z_ : Int × Int) => L20a.H n g z_.1 z_.2)) (inv := (fun (z_ : Int × Int) => L20a.inv n g z_.1 z_.2)) (mu := (fun (z_ : Int × Int) => L20a.mu n g z_.1 z_.2)) (l := (fun (k_ : Nat) (z_ : Int × Int) => L20a.N n g k_ z_.1 z_.2)) s_ h1 h2 h3 h4

theorem L20a.en (n : Nat) (g : Nat → LD) {k_ : Nat} {z_ : Int × Int} {h_ : AHeap} (o_ : L20a.O) (h3 : L20a.N n g (k_ + 1) z_.1 z_.2 = o_) (h4 : PopOk (L20a.H n g z_.1 z_.2) h_ (L20a.X n g o_) (L20a.XH n g o_)) : LEndP (fun (z_ : Int × Int) => L20a.H n g z_.1 z_.2) (fun (k_ : Nat) (z_ : Int × Int) => L20a.N n g k_ z_.1 z_.2) L20a.E (L20a.X n g) (L20a.XH n g) k_ z_ (L20a.E o_) (L20a.X n g o_) h_ := LEndP.mk (Hp := (fun (z_ : Int × Int) => L20a.H n g z_.1 z_.2)) (l := (fun (k_ : Nat) (z_ : Int × Int) => L20a.N n g k_ z_.1 z_.2)) (oE := L20a.E) (oT := L20a.X n g) (oH := L20a.XH n g) o_ h3 h4

theorem L20a.spec (n : Nat) (g : Nat → LD) (hn : n ≤ 9223372036854775807) (k_ : Nat) (z_ : Int × Int) (hi_ : L20a.inv n g z_.1 z_.2) (hm_ : L20a.mu n g z_.1 z_.2 < k_) : LoopTo Try.prog (loopN Try.f20 0) (L20a.T n g z_.1 z_.2) (L20a.H n g z_.1 z_.2) (L20a.E (L20a.N n g k_ z_.1 z_.2)) (L20a.X n g (L20a.N n g k_ z_.1 z_.2)) (L20a.XH n g (L20a.N n g k_ z_.1 z_.2)) := by
  refine LoopTo.fuelP mix (fun (z_ : Int × Int) => L20a.T n g z_.1 z_.2) (fun (z_ : Int × Int) => L20a.H n g z_.1 z_.2) (fun (z_ : Int × Int) => L20a.inv n g z_.1 z_.2) (fun (z_ : Int × Int) => L20a.mu n g z_.1 z_.2) (fun (k_ : Nat) (z_ : Int × Int) => L20a.N n g k_ z_.1 z_.2) L20a.E (L20a.X n g) (L20a.XH n g) (others 19 [0, 3, 4]) (others 19 [2]) (others 19 [3]) ?_ k_ z_ hi_ hm_
  clear hm_ hi_ z_ k_
  intro k_ z_ hinv hmu
  obtain ⟨a3, a4⟩ := z_
  have hinv : 0 ≤ a4 ∧ (a4 ≤ (↑n : Int) ∨ a4 ≤ 0) := hinv
  have hmu : (((↑n : Int) - a4).toNat) < k_ + 1 := hmu
  cases h1 : decide (a4 < (↑n : Int)) with
  | true =>
    have h1p := of_decide_eq_true h1
    have o0 : (0 : Int) ≤ a4 := by first | assumption | omega | (simp_all; done)
    have o1 : a4 < (↑n : Int) := by first | assumption | omega | (simp_all; done)
    try have := IntWalk.i64_in (a4 + 1) (by omega)
    have o2 : (0 : Int) ≤ IntKind.i64.wrap (a4 + (1 : Int)) := by first | assumption | omega | (simp_all; done)
    have o3 : IntKind.i64.wrap (a4 + (1 : Int)) ≤ (↑n : Int) ∨ IntKind.i64.wrap (a4 + (1 : Int)) ≤ (0 : Int) := by first | assumption | omega | (simp_all; done)
    have o4 : ((↑n : Int) - IntKind.i64.wrap (a4 + (1 : Int))).toNat < ((↑n : Int) - a4).toNat := by first | assumption | omega | (simp_all; done)
    exact ⟨[.b true], kmp (by kernel_rfl) (And.intro h1 (And.intro (And.intro o0 o1) (L20a.nx n g (k_ := k_) (z_ := (a3, a4)) ((IntKind.i64.wrap (a3 + (g a4.toNat).ms), IntKind.i64.wrap (a4 + 1))) (And.intro o2 o3) o4 (by first | (simp only [L20a.N, h1, cond_true, cond_false]; done) | (try unfold L20a.N; try simp only [h1, cond_true, cond_false]; try rfl; done)) PopOk.same)))⟩
  | false =>
    have h1p := of_decide_eq_false h1
    exact ⟨[.b false], kmp (by kernel_rfl) (And.intro h1 (L20a.en n g (k_ := k_) (z_ := (a3, a4)) (.e0 (a3) : L20a.O) (by first | (simp only [L20a.N, h1, cond_true, cond_false]; done) | (try unfold L20a.N; try simp only [h1, cond_true, cond_false]; try rfl; done)) PopOk.same))⟩

theorem L20a.e0 (n : Nat) (g : Nat → LD) (hn : n ≤ 9223372036854775807) (a3 : Int) (a4 : Int) (hinv : L20a.inv n g a3 a4) (a0 : Int) (hN : L20a.run n g a3 a4 = (.e0 a0 : L20a.O)) : LoopTo Try.prog (loopN Try.f20 0) (L20a.T n g a3 a4) (L20a.H n g a3 a4) (Exit.exit 0) (L20a.X n g (.e0 a0 : L20a.O)) (L20a.XH n g (.e0 a0 : L20a.O)) := by
  have h_ := L20a.spec n g hn ((((↑n : Int) - a4).toNat) + 1) (a3, a4) hinv (Nat.lt_succ_self _)
  unfold L20a.run at hN
  simp only [hN] at h_
  exact h_

noncomputable def r20.v (n : Nat) (g : Nat → LD) : Int := (match L20a.run n g 0 0 with | .e0 h1d0 => h1d0 )

theorem r20 (n : Nat) (g : Nat → LD) (hn : n ≤ 9223372036854775807) (h : AHeap) : Ret Try.prog 20 ([lds n g]) h (AV.int IntKind.i64 (r20.v n g)) h := by
  have o0 : n ≤ (9223372036854775807 : Nat) := by first | assumption | omega | (simp_all; done)
  have o1 : (0 : Int) ≤ (↑n : Int) ∨ (0 : Int) ≤ (0 : Int) := by first | assumption | omega | (simp_all; done)
  cases h1 : L20a.run n g 0 0 with
  | e0 h1d0 =>
    exact Ret.of_run1 mix [(AV.int IntKind.i64 (r20.v n g))] Try.func20 rfl [.loop (others 19 [0, 3, 4]) (Exit.exit 0) (L20a.X n g (L20a.O.e0 h1d0)) (L20a.XH n g (L20a.O.e0 h1d0))] (by simp) (by simp) (kmp (by kernel_rfl) (And.intro (L20a.e0 (n) (g) o0 (0) (0) (And.intro (show (0 : Int) ≤ (0 : Int) by first | decide | exact Int.NonNeg.mk _) o1) h1d0 h1) (And.intro (show (AV.int IntKind.i64 h1d0) = ((AV.int IntKind.i64 (r20.v n g))) by first | (simp only [r20.v, h1, cond_true, cond_false]; done) | (try unfold r20.v; try simp only [h1, cond_true, cond_false]; try rfl; done) | rfl) trivial))) h

inductive L33a.O where
  | e0 (a0 : Int) (a1 : Int)

noncomputable def L33a.T (n : Nat) (g : Nat → LD) (fr : Int) (a6 : Int) (a7 : Int) (a12 : Int) : List AV := mkT 37 [(1, AV.int IntKind.i64 fr), (6, AV.int IntKind.i64 a6), (7, AV.int IntKind.i64 a7), (10, AV.sl 4 n fun (i : Nat) => AV.agg [AV.str (g i).nm, AV.int IntKind.i64 (g i).lo, AV.int IntKind.i64 (g i).ln, AV.int IntKind.i64 (g i).ms]), (11, AV.int IntKind.i64 (↑n : Int)), (12, AV.int IntKind.i64 a12)]

noncomputable def L33a.H (n : Nat) (g : Nat → LD) (fr : Int) (a6 : Int) (a7 : Int) (a12 : Int) : AHeap := []

def L33a.inv (n : Nat) (g : Nat → LD) (fr : Int) (a6 : Int) (a7 : Int) (a12 : Int) : Prop := 0 ≤ a12 ∧ (a12 ≤ (↑n : Int) ∨ a12 ≤ 0)

noncomputable def L33a.mu (n : Nat) (g : Nat → LD) (fr : Int) (a6 : Int) (a7 : Int) (a12 : Int) : Nat := ((↑n : Int) - a12).toNat

noncomputable def L33a.E : L33a.O → Exit
  | .e0 a0 a1 => Exit.exit 0

noncomputable def L33a.X (n : Nat) (g : Nat → LD) (fr : Int) : L33a.O → List AV
  | .e0 a0 a1 => mkT 37 [(6, (AV.int IntKind.i64 a0)), (7, (AV.int IntKind.i64 a1))]

noncomputable def L33a.XH (n : Nat) (g : Nat → LD) (fr : Int) : L33a.O → AHeap
  | .e0 a0 a1 => ([])

noncomputable def L33a.N (n : Nat) (g : Nat → LD) (fr : Int) : Nat → Int → Int → Int → L33a.O
  | 0, a6, a7, _ => .e0 a6 a7
  | k_ + 1, a6, a7, a12 => (bif decide (a12 < (↑n : Int)) then (L33a.N n g fr k_ (IntKind.i64.wrap (a6 + (g a12.toNat).ms)) (IntKind.i64.wrap (a7 + IntKind.i64.wrap ((g a12.toNat).ms * IntKind.i64.wrap (IntKind.i64.wrap (IntKind.i64.wrap (2 * (g a12.toNat).lo) + (g a12.toNat).ln) - IntKind.i64.wrap (2 * fr))))) (IntKind.i64.wrap (a12 + 1))) else (.e0 (a6) (a7)))

noncomputable def L33a.run (n : Nat) (g : Nat → LD) (fr : Int) (a6 : Int) (a7 : Int) (a12 : Int) : L33a.O := L33a.N n g fr ((((↑n : Int) - a12).toNat) + 1) a6 a7 a12

theorem L33a.nx (n : Nat) (g : Nat → LD) (fr : Int) {k_ : Nat} {z_ : Int × Int × Int} {h_ : AHeap} (s_ : Int × Int × Int) (h1 : L33a.inv n g fr s_.1 s_.2.1 s_.2.2) (h2 : L33a.mu n g fr s_.1 s_.2.1 s_.2.2 < L33a.mu n g fr z_.1 z_.2.1 z_.2.2) (h3 : L33a.N n g fr k_ s_.1 s_.2.1 s_.2.2 = L33a.N n g fr (k_ + 1) z_.1 z_.2.1 z_.2.2) (h4 : PopOk (L33a.H n g fr z_.1 z_.2.1 z_.2.2) h_ (L33a.T n g fr s_.1 s_.2.1 s_.2.2) (L33a.H n g fr s_.1 s_.2.1 s_.2.2)) : LNextP (fun (z_ : Int × Int × Int) => L33a.T n g fr z_.1 z_.2.1 z_.2.2) (fun (z_ : Int × Int × Int) => L33a.H n g fr z_.1 z_.2.1 z_.2.2) (fun (z_ : Int × Int × Int) => L33a.inv n g fr z_.1 z_.2.1 z_.2.2) (fun (z_ : Int × Int × Int) => L33a.mu n g fr z_.1 z_.2.1 z_.2.2) (fun (k_ : Nat) (z_ : Int × Int × Int) => L33a.N n g fr k_ z_.1 z_.2.1 z_.2.2) k_ z_ (L33a.T n g fr s_.1 s_.2.1 s_.2.2) h_ := LNextP.mk (Tm := (fun (z_ : Int × Int × Int) => L33a.T n g fr z_.1 z_.2.1 z_.2.2)) (Hp := (fun (z_ : Int × Int × Int) => L33a.H n g fr z_.1 z_.2.1 z_.2.2)) (inv := (fun (z_ : Int × Int × Int) => L33a.inv n g fr z_.1 z_.2.1 z_.2.2)) (mu := (fun (z_ : Int × Int × Int) => L33a.mu n g fr z_.1 z_.2.1 z_.2.2)) (l := (fun (k_ : Nat) (z_ : Int × Int × Int) => L33a.N n g fr k_ z_.1 z_.2.1 z_.2.2)) s_ h1 h2 h3 h4

theorem L33a.en (n : Nat) (g : Nat → LD) (fr : Int) {k_ : Nat} {z_ : Int × Int × Int} {h_ : AHeap} (o_ : L33a.O) (h3 : L33a.N n g fr (k_ + 1) z_.1 z_.2.1 z_.2.2 = o_) (h4 : PopOk (L33a.H n g fr z_.1 z_.2.1 z_.2.2) h_ (L33a.X n g fr o_) (L33a.XH n g fr o_)) : LEndP (fun (z_ : Int × Int × Int) => L33a.H n g fr z_.1 z_.2.1 z_.2.2) (fun (k_ : Nat) (z_ : Int × Int × Int) => L33a.N n g fr k_ z_.1 z_.2.1 z_.2.2) L33a.E (L33a.X n g fr) (L33a.XH n g fr) k_ z_ (L33a.E o_) (L33a.X n g fr o_) h_ := LEndP.mk (Hp := (fun (z_ : Int × Int × Int) => L33a.H n g fr z_.1 z_.2.1 z_.2.2)) (l := (fun (k_ : Nat) (z_ : Int × Int × Int) => L33a.N n g fr k_ z_.1 z_.2.1 z_.2.2)) (oE := L33a.E) (oT := L33a.X n g fr) (oH := L33a.XH n g fr) o_ h3 h4

theorem L33a.spec (n : Nat) (g : Nat → LD) (hn : n ≤ 9223372036854775807) (fr : Int) (k_ : Nat) (z_ : Int × Int × Int) (hi_ : L33a.inv n g fr z_.1 z_.2.1 z_.2.2) (hm_ : L33a.mu n g fr z_.1 z_.2.1 z_.2.2 < k_) : LoopTo Try.prog (loopN Try.f33 0) (L33a.T n g fr z_.1 z_.2.1 z_.2.2) (L33a.H n g fr z_.1 z_.2.1 z_.2.2) (L33a.E (L33a.N n g fr k_ z_.1 z_.2.1 z_.2.2)) (L33a.X n g fr (L33a.N n g fr k_ z_.1 z_.2.1 z_.2.2)) (L33a.XH n g fr (L33a.N n g fr k_ z_.1 z_.2.1 z_.2.2)) := by
  refine LoopTo.fuelP mix (fun (z_ : Int × Int × Int) => L33a.T n g fr z_.1 z_.2.1 z_.2.2) (fun (z_ : Int × Int × Int) => L33a.H n g fr z_.1 z_.2.1 z_.2.2) (fun (z_ : Int × Int × Int) => L33a.inv n g fr z_.1 z_.2.1 z_.2.2) (fun (z_ : Int × Int × Int) => L33a.mu n g fr z_.1 z_.2.1 z_.2.2) (fun (k_ : Nat) (z_ : Int × Int × Int) => L33a.N n g fr k_ z_.1 z_.2.1 z_.2.2) L33a.E (L33a.X n g fr) (L33a.XH n g fr) (others 37 [1, 6, 7, 10, 11, 12]) (others 37 [4, 5]) (others 37 [6, 7]) ?_ k_ z_ hi_ hm_
  clear hm_ hi_ z_ k_
  intro k_ z_ hinv hmu
  obtain ⟨a6, a7, a12⟩ := z_
  have hinv : 0 ≤ a12 ∧ (a12 ≤ (↑n : Int) ∨ a12 ≤ 0) := hinv
  have hmu : (((↑n : Int) - a12).toNat) < k_ + 1 := hmu
  cases h1 : decide (a12 < (↑n : Int)) with
  | true =>
    have h1p := of_decide_eq_true h1
    have o0 : (0 : Int) ≤ a12 := by first | assumption | omega | (simp_all; done)
    have o1 : a12 < (↑n : Int) := by first | assumption | omega | (simp_all; done)
    try have := IntWalk.i64_in (a12 + 1) (by omega)
    have o2 : (0 : Int) ≤ IntKind.i64.wrap (a12 + (1 : Int)) := by first | assumption | omega | (simp_all; done)
    have o3 : IntKind.i64.wrap (a12 + (1 : Int)) ≤ (↑n : Int) ∨ IntKind.i64.wrap (a12 + (1 : Int)) ≤ (0 : Int) := by first | assumption | omega | (simp_all; done)
    have o4 : ((↑n : Int) - IntKind.i64.wrap (a12 + (1 : Int))).toNat < ((↑n : Int) - a12).toNat := by first | assumption | omega | (simp_all; done)
    exact ⟨[.b true], kmp (by kernel_rfl) (And.intro h1 (And.intro (And.intro o0 o1) (L33a.nx n g fr (k_ := k_) (z_ := (a6, a7, a12)) (h_ := [AObj.var (AV.agg [AV.str (g a12.toNat).nm, AV.int IntKind.i64 (g a12.toNat).lo, AV.int IntKind.i64 (g a12.toNat).ln, AV.int IntKind.i64 (g a12.toNat).ms])]) ((IntKind.i64.wrap (a6 + (g a12.toNat).ms), IntKind.i64.wrap (a7 + IntKind.i64.wrap ((g a12.toNat).ms * IntKind.i64.wrap (IntKind.i64.wrap (IntKind.i64.wrap (2 * (g a12.toNat).lo) + (g a12.toNat).ln) - IntKind.i64.wrap (2 * fr)))), IntKind.i64.wrap (a12 + 1))) (And.intro o2 o3) o4 (by first | (simp only [L33a.N, h1, cond_true, cond_false]; done) | (try unfold L33a.N; try simp only [h1, cond_true, cond_false]; try rfl; done)) (PopOk.pop rfl (by simp [L33a.T, L33a.X, L33a.H, L33a.XH])))))⟩
  | false =>
    have h1p := of_decide_eq_false h1
    exact ⟨[.b false], kmp (by kernel_rfl) (And.intro h1 (L33a.en n g fr (k_ := k_) (z_ := (a6, a7, a12)) (.e0 (a6) (a7) : L33a.O) (by first | (simp only [L33a.N, h1, cond_true, cond_false]; done) | (try unfold L33a.N; try simp only [h1, cond_true, cond_false]; try rfl; done)) PopOk.same))⟩

theorem L33a.e0 (n : Nat) (g : Nat → LD) (hn : n ≤ 9223372036854775807) (fr : Int) (a6 : Int) (a7 : Int) (a12 : Int) (hinv : L33a.inv n g fr a6 a7 a12) (a0 : Int) (a1 : Int) (hN : L33a.run n g fr a6 a7 a12 = (.e0 a0 a1 : L33a.O)) : LoopTo Try.prog (loopN Try.f33 0) (L33a.T n g fr a6 a7 a12) (L33a.H n g fr a6 a7 a12) (Exit.exit 0) (L33a.X n g fr (.e0 a0 a1 : L33a.O)) (L33a.XH n g fr (.e0 a0 a1 : L33a.O)) := by
  have h_ := L33a.spec n g hn fr ((((↑n : Int) - a12).toNat) + 1) (a6, a7, a12) hinv (Nat.lt_succ_self _)
  unfold L33a.run at hN
  simp only [hN] at h_
  exact h_

noncomputable def r33.v0 (n : Nat) (g : Nat → LD) (fr : Int) : Int := (match L33a.run n g fr 0 0 0 with | .e0 h1d0 h1d1 => h1d0 )

noncomputable def r33.v1 (n : Nat) (g : Nat → LD) (fr : Int) : Int := (match L33a.run n g fr 0 0 0 with | .e0 h1d0 h1d1 => h1d1 )

theorem r33 (n : Nat) (g : Nat → LD) (hn : n ≤ 9223372036854775807) (fr : Int) (h : AHeap) : Ret Try.prog 33 ([lds n g, AV.int IntKind.i64 fr]) h (AV.tup [(AV.int IntKind.i64 (r33.v0 n g fr)), (AV.int IntKind.i64 (r33.v1 n g fr))]) h := by
  have o0 : n ≤ (9223372036854775807 : Nat) := by first | assumption | omega | (simp_all; done)
  have o1 : (0 : Int) ≤ (↑n : Int) ∨ (0 : Int) ≤ (0 : Int) := by first | assumption | omega | (simp_all; done)
  cases h1 : L33a.run n g fr 0 0 0 with
  | e0 h1d0 h1d1 =>
    exact Ret.of_run1 mix [(AV.int IntKind.i64 (r33.v0 n g fr)), (AV.int IntKind.i64 (r33.v1 n g fr))] Try.func33 rfl [.loop (others 37 [1, 6, 7, 10, 11, 12]) (Exit.exit 0) (L33a.X n g fr (L33a.O.e0 h1d0 h1d1)) (L33a.XH n g fr (L33a.O.e0 h1d0 h1d1))] (by simp) (by simp) (kmp (by kernel_rfl) (And.intro (L33a.e0 (n) (g) o0 (fr) (0) (0) (0) (And.intro (show (0 : Int) ≤ (0 : Int) by first | decide | exact Int.NonNeg.mk _) o1) h1d0 h1d1 h1) (And.intro (show (AV.int IntKind.i64 h1d0) = ((AV.int IntKind.i64 (r33.v0 n g fr))) by first | (simp only [r33.v0, r33.v1, h1, cond_true, cond_false]; done) | (try unfold r33.v0; try unfold r33.v1; try simp only [h1, cond_true, cond_false]; try rfl; done) | rfl) (And.intro (show (AV.int IntKind.i64 h1d1) = ((AV.int IntKind.i64 (r33.v1 n g fr))) by first | (simp only [r33.v0, r33.v1, h1, cond_true, cond_false]; done) | (try unfold r33.v0; try unfold r33.v1; try simp only [h1, cond_true, cond_false]; try rfl; done) | rfl) trivial)))) h

inductive L41a.O where
  | e0 (a0 : Int)

noncomputable def L41a.T (n : Nat) (g : Nat → LD) (fr : Int) (a5 : Int) (a6 : Int) : List AV := mkT 37 [(0, AV.sl 4 n fun (i : Nat) => AV.agg [AV.str (g i).nm, AV.int IntKind.i64 (g i).lo, AV.int IntKind.i64 (g i).ln, AV.int IntKind.i64 (g i).ms]), (1, AV.int IntKind.i64 fr), (5, AV.int IntKind.i64 a5), (6, AV.int IntKind.i64 a6)]

noncomputable def L41a.H (n : Nat) (g : Nat → LD) (fr : Int) (a5 : Int) (a6 : Int) : AHeap := []

def L41a.inv (n : Nat) (g : Nat → LD) (fr : Int) (a5 : Int) (a6 : Int) : Prop := 0 ≤ a6 ∧ (a6 ≤ (↑n : Int) ∨ a6 ≤ 0)

noncomputable def L41a.mu (n : Nat) (g : Nat → LD) (fr : Int) (a5 : Int) (a6 : Int) : Nat := ((↑n : Int) - a6).toNat

noncomputable def L41a.E : L41a.O → Exit
  | .e0 a0 => Exit.exit 0

noncomputable def L41a.X (n : Nat) (g : Nat → LD) (fr : Int) : L41a.O → List AV
  | .e0 a0 => mkT 37 [(5, (AV.int IntKind.i64 a0))]

noncomputable def L41a.XH (n : Nat) (g : Nat → LD) (fr : Int) : L41a.O → AHeap
  | .e0 a0 => ([])

noncomputable def L41a.N (n : Nat) (g : Nat → LD) (fr : Int) : Nat → Int → Int → L41a.O
  | 0, a5, _ => .e0 a5
  | k_ + 1, a5, a6 => (bif decide (a6 < (↑n : Int)) then (L41a.N n g fr k_ (IntKind.i64.wrap (a5 + IntKind.i64.wrap ((g a6.toNat).ms * IntKind.i64.wrap (IntKind.i64.wrap (IntKind.i64.wrap (2 * (g a6.toNat).lo) + (g a6.toNat).ln) - IntKind.i64.wrap (2 * fr))))) (IntKind.i64.wrap (a6 + 1))) else (.e0 (a5)))

noncomputable def L41a.run (n : Nat) (g : Nat → LD) (fr : Int) (a5 : Int) (a6 : Int) : L41a.O := L41a.N n g fr ((((↑n : Int) - a6).toNat) + 1) a5 a6

theorem L41a.nx (n : Nat) (g : Nat → LD) (fr : Int) {k_ : Nat} {z_ : Int × Int} {h_ : AHeap} (s_ : Int × Int) (h1 : L41a.inv n g fr s_.1 s_.2) (h2 : L41a.mu n g fr s_.1 s_.2 < L41a.mu n g fr z_.1 z_.2) (h3 : L41a.N n g fr k_ s_.1 s_.2 = L41a.N n g fr (k_ + 1) z_.1 z_.2) (h4 : PopOk (L41a.H n g fr z_.1 z_.2) h_ (L41a.T n g fr s_.1 s_.2) (L41a.H n g fr s_.1 s_.2)) : LNextP (fun (z_ : Int × Int) => L41a.T n g fr z_.1 z_.2) (fun (z_ : Int × Int) => L41a.H n g fr z_.1 z_.2) (fun (z_ : Int × Int) => L41a.inv n g fr z_.1 z_.2) (fun (z_ : Int × Int) => L41a.mu n g fr z_.1 z_.2) (fun (k_ : Nat) (z_ : Int × Int) => L41a.N n g fr k_ z_.1 z_.2) k_ z_ (L41a.T n g fr s_.1 s_.2) h_ := LNextP.mk (Tm := (fun (z_ : Int × Int) => L41a.T n g fr z_.1 z_.2)) (Hp := (fun (z_ : Int × Int) => L41a.H n g fr z_.1 z_.2)) (inv := (fun (z_ : Int × Int) => L41a.inv n g fr z_.1 z_.2)) (mu := (fun (z_ : Int × Int) => L41a.mu n g fr z_.1 z_.2)) (l := (fun (k_ : Nat) (z_ : Int × Int) => L41a.N n g fr k_ z_.1 z_.2)) s_ h1 h2 h3 h4

theorem L41a.en (n : Nat) (g : Nat → LD) (fr : Int) {k_ : Nat} {z_ : Int × Int} {h_ : AHeap} (o_ : L41a.O) (h3 : L41a.N n g fr (k_ + 1) z_.1 z_.2 = o_) (h4 : PopOk (L41a.H n g fr z_.1 z_.2) h_ (L41a.X n g fr o_) (L41a.XH n g fr o_)) : LEndP (fun (z_ : Int × Int) => L41a.H n g fr z_.1 z_.2) (fun (k_ : Nat) (z_ : Int × Int) => L41a.N n g fr k_ z_.1 z_.2) L41a.E (L41a.X n g fr) (L41a.XH n g fr) k_ z_ (L41a.E o_) (L41a.X n g fr o_) h_ := LEndP.mk (Hp := (fun (z_ : Int × Int) => L41a.H n g fr z_.1 z_.2)) (l := (fun (k_ : Nat) (z_ : Int × Int) => L41a.N n g fr k_ z_.1 z_.2)) (oE := L41a.E) (oT := L41a.X n g fr) (oH := L41a.XH n g fr) o_ h3 h4

theorem L41a.spec (n : Nat) (g : Nat → LD) (hn : n ≤ 9223372036854775807) (fr : Int) (k_ : Nat) (z_ : Int × Int) (hi_ : L41a.inv n g fr z_.1 z_.2) (hm_ : L41a.mu n g fr z_.1 z_.2 < k_) : LoopTo Try.prog (loopN Try.f41 0) (L41a.T n g fr z_.1 z_.2) (L41a.H n g fr z_.1 z_.2) (L41a.E (L41a.N n g fr k_ z_.1 z_.2)) (L41a.X n g fr (L41a.N n g fr k_ z_.1 z_.2)) (L41a.XH n g fr (L41a.N n g fr k_ z_.1 z_.2)) := by
  refine LoopTo.fuelP mix (fun (z_ : Int × Int) => L41a.T n g fr z_.1 z_.2) (fun (z_ : Int × Int) => L41a.H n g fr z_.1 z_.2) (fun (z_ : Int × Int) => L41a.inv n g fr z_.1 z_.2) (fun (z_ : Int × Int) => L41a.mu n g fr z_.1 z_.2) (fun (k_ : Nat) (z_ : Int × Int) => L41a.N n g fr k_ z_.1 z_.2) L41a.E (L41a.X n g fr) (L41a.XH n g fr) (others 37 [0, 1, 5, 6]) (others 37 [4]) (others 37 [5]) ?_ k_ z_ hi_ hm_
  clear hm_ hi_ z_ k_
  intro k_ z_ hinv hmu
  obtain ⟨a5, a6⟩ := z_
  have hinv : 0 ≤ a6 ∧ (a6 ≤ (↑n : Int) ∨ a6 ≤ 0) := hinv
  have hmu : (((↑n : Int) - a6).toNat) < k_ + 1 := hmu
  cases h1 : decide (a6 < (↑n : Int)) with
  | true =>
    have h1p := of_decide_eq_true h1
    have o0 : (0 : Int) ≤ a6 := by first | assumption | omega | (simp_all; done)
    have o1 : a6 < (↑n : Int) := by first | assumption | omega | (simp_all; done)
    try have := IntWalk.i64_in (a6 + 1) (by omega)
    have o2 : (0 : Int) ≤ IntKind.i64.wrap (a6 + (1 : Int)) := by first | assumption | omega | (simp_all; done)
    have o3 : IntKind.i64.wrap (a6 + (1 : Int)) ≤ (↑n : Int) ∨ IntKind.i64.wrap (a6 + (1 : Int)) ≤ (0 : Int) := by first | assumption | omega | (simp_all; done)
    have o4 : ((↑n : Int) - IntKind.i64.wrap (a6 + (1 : Int))).toNat < ((↑n : Int) - a6).toNat := by first | assumption | omega | (simp_all; done)
    exact ⟨[.b true], kmp (by kernel_rfl) (And.intro h1 (And.intro (And.intro o0 o1) (And.intro (And.intro o0 o1) (And.intro (And.intro o0 o1) (L41a.nx n g fr (k_ := k_) (z_ := (a5, a6)) ((IntKind.i64.wrap (a5 + IntKind.i64.wrap ((g a6.toNat).ms * IntKind.i64.wrap (IntKind.i64.wrap (IntKind.i64.wrap (2 * (g a6.toNat).lo) + (g a6.toNat).ln) - IntKind.i64.wrap (2 * fr)))), IntKind.i64.wrap (a6 + 1))) (And.intro o2 o3) o4 (by first | (simp only [L41a.N, h1, cond_true, cond_false]; done) | (try unfold L41a.N; try simp only [h1, cond_true, cond_false]; try rfl; done)) PopOk.same)))))⟩
  | false =>
    have h1p := of_decide_eq_false h1
    exact ⟨[.b false], kmp (by kernel_rfl) (And.intro h1 (L41a.en n g fr (k_ := k_) (z_ := (a5, a6)) (.e0 (a5) : L41a.O) (by first | (simp only [L41a.N, h1, cond_true, cond_false]; done) | (try unfold L41a.N; try simp only [h1, cond_true, cond_false]; try rfl; done)) PopOk.same))⟩

theorem L41a.e0 (n : Nat) (g : Nat → LD) (hn : n ≤ 9223372036854775807) (fr : Int) (a5 : Int) (a6 : Int) (hinv : L41a.inv n g fr a5 a6) (a0 : Int) (hN : L41a.run n g fr a5 a6 = (.e0 a0 : L41a.O)) : LoopTo Try.prog (loopN Try.f41 0) (L41a.T n g fr a5 a6) (L41a.H n g fr a5 a6) (Exit.exit 0) (L41a.X n g fr (.e0 a0 : L41a.O)) (L41a.XH n g fr (.e0 a0 : L41a.O)) := by
  have h_ := L41a.spec n g hn fr ((((↑n : Int) - a6).toNat) + 1) (a5, a6) hinv (Nat.lt_succ_self _)
  unfold L41a.run at hN
  simp only [hN] at h_
  exact h_

noncomputable def r41.v (n : Nat) (g : Nat → LD) (fr : Int) : Int := (match L41a.run n g fr 0 0 with | .e0 h1d0 => h1d0 )

theorem r41 (n : Nat) (g : Nat → LD) (hn : n ≤ 9223372036854775807) (fr : Int) (h : AHeap) : Ret Try.prog 41 ([lds n g, AV.int IntKind.i64 fr]) h (AV.int IntKind.i64 (r41.v n g fr)) h := by
  have o0 : n ≤ (9223372036854775807 : Nat) := by first | assumption | omega | (simp_all; done)
  have o1 : (0 : Int) ≤ (↑n : Int) ∨ (0 : Int) ≤ (0 : Int) := by first | assumption | omega | (simp_all; done)
  cases h1 : L41a.run n g fr 0 0 with
  | e0 h1d0 =>
    exact Ret.of_run1 mix [(AV.int IntKind.i64 (r41.v n g fr))] Try.func41 rfl [.loop (others 37 [0, 1, 5, 6]) (Exit.exit 0) (L41a.X n g fr (L41a.O.e0 h1d0)) (L41a.XH n g fr (L41a.O.e0 h1d0))] (by simp) (by simp) (kmp (by kernel_rfl) (And.intro (L41a.e0 (n) (g) o0 (fr) (0) (0) (And.intro (show (0 : Int) ≤ (0 : Int) by first | decide | exact Int.NonNeg.mk _) o1) h1d0 h1) (And.intro (show (AV.int IntKind.i64 h1d0) = ((AV.int IntKind.i64 (r41.v n g fr))) by first | (simp only [r41.v, h1, cond_true, cond_false]; done) | (try unfold r41.v; try simp only [h1, cond_true, cond_false]; try rfl; done) | rfl) trivial))) h

inductive L11a.O where
  | e0
  | e1

noncomputable def L11a.T (t : TD) (n : Nat) (g : Nat → LD) (a5 : Int) : List AV := mkT 38 [(1, AV.sl 4 n fun (i : Nat) => AV.agg [AV.str (g i).nm, AV.int IntKind.i64 (g i).lo, AV.int IntKind.i64 (g i).ln, AV.int IntKind.i64 (g i).ms]), (5, AV.int IntKind.i64 a5)]

noncomputable def L11a.H (t : TD) (n : Nat) (g : Nat → LD) (a5 : Int) : AHeap := [AObj.dead]

def L11a.inv (t : TD) (n : Nat) (g : Nat → LD) (a5 : Int) : Prop := 0 ≤ a5 ∧ (a5 ≤ (↑n : Int) ∨ a5 ≤ 0)

noncomputable def L11a.mu (t : TD) (n : Nat) (g : Nat → LD) (a5 : Int) : Nat := ((↑n : Int) - a5).toNat

noncomputable def L11a.E : L11a.O → Exit
  | .e0 => Exit.ret
  | .e1 => Exit.exit 0

noncomputable def L11a.X (t : TD) (n : Nat) (g : Nat → LD) : L11a.O → List AV
  | .e0 => mkT 38 [(4, (AV.bool false))]
  | .e1 => mkT 38 []

noncomputable def L11a.XH (t : TD) (n : Nat) (g : Nat → LD) : L11a.O → AHeap
  | .e0 => ([AObj.dead])
  | .e1 => ([AObj.dead])

noncomputable def L11a.N (n : Nat) (g : Nat → LD) : Nat → Int → L11a.O
  | 0, _ => .e0
  | k_ + 1, a5 => (bif decide (a5 < (↑n : Int)) then (bif decide ((↑(g a5.toNat).nm.size : Int) > 100) then (.e0) else (L11a.N n g k_ (IntKind.i64.wrap (a5 + 1)))) else (.e1))

noncomputable def L11a.run (n : Nat) (g : Nat → LD) (a5 : Int) : L11a.O := L11a.N n g ((((↑n : Int) - a5).toNat) + 1) a5

theorem L11a.nx (t : TD) (n : Nat) (g : Nat → LD) {k_ : Nat} {z_ : Int} {h_ : AHeap} (s_ : Int) (h1 : L11a.inv t n g s_) (h2 : L11a.mu t n g s_ < L11a.mu t n g z_) (h3 : L11a.N n g k_ s_ = L11a.N n g (k_ + 1) z_) (h4 : PopOk (L11a.H t n g z_) h_ (L11a.T t n g s_) (L11a.H t n g s_)) : LNextP (fun (z_ : Int) => L11a.T t n g z_) (fun (z_ : Int) => L11a.H t n g z_) (fun (z_ : Int) => L11a.inv t n g z_) (fun (z_ : Int) => L11a.mu t n g z_) (fun (k_ : Nat) (z_ : Int) => L11a.N n g k_ z_) k_ z_ (L11a.T t n g s_) h_ := LNextP.mk (Tm := (fun (z_ : Int) => L11a.T t n g z_)) (Hp := (fun (z_ : Int) => L11a.H t n g z_)) (inv := (fun (z_ : Int) => L11a.inv t n g z_)) (mu := (fun (z_ : Int) => L11a.mu t n g z_)) (l := (fun (k_ : Nat) (z_ : Int) => L11a.N n g k_ z_)) s_ h1 h2 h3 h4

theorem L11a.en (t : TD) (n : Nat) (g : Nat → LD) {k_ : Nat} {z_ : Int} {h_ : AHeap} (o_ : L11a.O) (h3 : L11a.N n g (k_ + 1) z_ = o_) (h4 : PopOk (L11a.H t n g z_) h_ (L11a.X t n g o_) (L11a.XH t n g o_)) : LEndP (fun (z_ : Int) => L11a.H t n g z_) (fun (k_ : Nat) (z_ : Int) => L11a.N n g k_ z_) L11a.E (L11a.X t n g) (L11a.XH t n g) k_ z_ (L11a.E o_) (L11a.X t n g o_) h_ := LEndP.mk (Hp := (fun (z_ : Int) => L11a.H t n g z_)) (l := (fun (k_ : Nat) (z_ : Int) => L11a.N n g k_ z_)) (oE := L11a.E) (oT := L11a.X t n g) (oH := L11a.XH t n g) o_ h3 h4

theorem L11a.spec (t : TD) (n : Nat) (g : Nat → LD) (hn : n ≤ 9223372036854775807) (k0_1 : decide ((↑t.nm.size : Int) > 100) = false) (p0_1 : ¬(↑t.nm.size : Int) > 100) (k0_2 : decide ((↑n : Int) > 10) = true) (p0_2 : (↑n : Int) > 10) (k0_3 : decide ((↑n : Int) ≤ 64) = false) (p0_3 : ¬(↑n : Int) ≤ 64) (k0_4 : decide ((↑n : Int) > 70) = false) (p0_4 : ¬(↑n : Int) > 70) (k_ : Nat) (z_ : Int) (hi_ : L11a.inv t n g z_) (hm_ : L11a.mu t n g z_ < k_) : LoopTo Try.prog (loopN Try.f11 0) (L11a.T t n g z_) (L11a.H t n g z_) (L11a.E (L11a.N n g k_ z_)) (L11a.X t n g (L11a.N n g k_ z_)) (L11a.XH t n g (L11a.N n g k_ z_)) := by
  refine LoopTo.fuelP mix (fun (z_ : Int) => L11a.T t n g z_) (fun (z_ : Int) => L11a.H t n g z_) (fun (z_ : Int) => L11a.inv t n g z_) (fun (z_ : Int) => L11a.mu t n g z_) (fun (k_ : Nat) (z_ : Int) => L11a.N n g k_ z_) L11a.E (L11a.X t n g) (L11a.XH t n g) (others 38 [1, 5]) (others 38 [4]) (others 38 []) ?_ k_ z_ hi_ hm_
  clear hm_ hi_ z_ k_
  intro k_ z_ hinv hmu
  revert hinv hmu; revert z_; intro a5 hinv hmu
  have hinv : 0 ≤ a5 ∧ (a5 ≤ (↑n : Int) ∨ a5 ≤ 0) := hinv
  have hmu : (((↑n : Int) - a5).toNat) < k_ + 1 := hmu
  cases h1 : decide (a5 < (↑n : Int)) with
  | true =>
    have h1p := of_decide_eq_true h1
    have o0 : (0 : Int) ≤ a5 := by first | assumption | omega | (simp_all; done)
    have o1 : a5 < (↑n : Int) := by first | assumption | omega | (simp_all; done)
    cases h2 : decide ((↑(g a5.toNat).nm.size : Int) > 100) with
    | true =>
      have h2p := of_decide_eq_true h2
      exact ⟨[.b true, .b true], kmp (by kernel_rfl) (And.intro h1 (And.intro (And.intro o0 o1) (And.intro h2 (L11a.en t n g (k_ := k_) (z_ := a5) (.e0 : L11a.O) (by first | (simp only [L11a.N, h1, h2, cond_true, cond_false]; done) | (try unfold L11a.N; try simp only [h1, cond_true, cond_false]; try simp only [h2, cond_true, cond_false]; try rfl; done)) PopOk.same))))⟩
    | false =>
      have h2p := of_decide_eq_false h2
      try have := IntWalk.i64_in (a5 + 1) (by omega)
      have o2 : (0 : Int) ≤ IntKind.i64.wrap (a5 + (1 : Int)) := by first | assumption | omega | (simp_all; done)
      have o3 : IntKind.i64.wrap (a5 + (1 : Int)) ≤ (↑n : Int) ∨ IntKind.i64.wrap (a5 + (1 : Int)) ≤ (0 : Int) := by first | assumption | omega | (simp_all; done)
      have o4 : ((↑n : Int) - IntKind.i64.wrap (a5 + (1 : Int))).toNat < ((↑n : Int) - a5).toNat := by first | assumption | omega | (simp_all; done)
      exact ⟨[.b true, .b false], kmp (by kernel_rfl) (And.intro h1 (And.intro (And.intro o0 o1) (And.intro h2 (L11a.nx t n g (k_ := k_) (z_ := a5) (IntKind.i64.wrap (a5 + 1)) (And.intro o2 o3) o4 (by first | (simp only [L11a.N, h1, h2, cond_true, cond_false]; done) | (try unfold L11a.N; try simp only [h1, cond_true, cond_false]; try simp only [h2, cond_true, cond_false]; try rfl; done)) PopOk.same))))⟩
  | false =>
    have h1p := of_decide_eq_false h1
    exact ⟨[.b false], kmp (by kernel_rfl) (And.intro h1 (L11a.en t n g (k_ := k_) (z_ := a5) (.e1 : L11a.O) (by first | (simp only [L11a.N, h1, cond_true, cond_false]; done) | (try unfold L11a.N; try simp only [h1, cond_true, cond_false]; try rfl; done)) PopOk.same))⟩

theorem L11a.e0 (t : TD) (n : Nat) (g : Nat → LD) (hn : n ≤ 9223372036854775807) (k0_1 : decide ((↑t.nm.size : Int) > 100) = false) (p0_1 : ¬(↑t.nm.size : Int) > 100) (k0_2 : decide ((↑n : Int) > 10) = true) (p0_2 : (↑n : Int) > 10) (k0_3 : decide ((↑n : Int) ≤ 64) = false) (p0_3 : ¬(↑n : Int) ≤ 64) (k0_4 : decide ((↑n : Int) > 70) = false) (p0_4 : ¬(↑n : Int) > 70) (a5 : Int) (hinv : L11a.inv t n g a5) (hN : L11a.run n g a5 = (.e0 : L11a.O)) : LoopTo Try.prog (loopN Try.f11 0) (L11a.T t n g a5) (L11a.H t n g a5) (Exit.ret) (L11a.X t n g (.e0 : L11a.O)) (L11a.XH t n g (.e0 : L11a.O)) := by
  have h_ := L11a.spec t n g hn k0_1 p0_1 k0_2 p0_2 k0_3 p0_3 k0_4 p0_4 ((((↑n : Int) - a5).toNat) + 1) a5 hinv (Nat.lt_succ_self _)
  unfold L11a.run at hN
  simp only [hN] at h_
  exact h_

theorem L11a.e1 (t : TD) (n : Nat) (g : Nat → LD) (hn : n ≤ 9223372036854775807) (k0_1 : decide ((↑t.nm.size : Int) > 100) = false) (p0_1 : ¬(↑t.nm.size : Int) > 100) (k0_2 : decide ((↑n : Int) > 10) = true) (p0_2 : (↑n : Int) > 10) (k0_3 : decide ((↑n : Int) ≤ 64) = false) (p0_3 : ¬(↑n : Int) ≤ 64) (k0_4 : decide ((↑n : Int) > 70) = false) (p0_4 : ¬(↑n : Int) > 70) (a5 : Int) (hinv : L11a.inv t n g a5) (hN : L11a.run n g a5 = (.e1 : L11a.O)) : LoopTo Try.prog (loopN Try.f11 0) (L11a.T t n g a5) (L11a.H t n g a5) (Exit.exit 0) (L11a.X t n g (.e1 : L11a.O)) (L11a.XH t n g (.e1 : L11a.O)) := by
  have h_ := L11a.spec t n g hn k0_1 p0_1 k0_2 p0_2 k0_3 p0_3 k0_4 p0_4 ((((↑n : Int) - a5).toNat) + 1) a5 hinv (Nat.lt_succ_self _)
  unfold L11a.run at hN
  simp only [hN] at h_
  exact h_

inductive L11ax.O where
  | e0
  | e1

noncomputable def L11ax.T (t : TD) (n : Nat) (g : Nat → LD) (a5 : Int) : List AV := mkT 38 [(1, AV.sl 4 n fun (i : Nat) => AV.agg [AV.str (g i).nm, AV.int IntKind.i64 (g i).lo, AV.int IntKind.i64 (g i).ln, AV.int IntKind.i64 (g i).ms]), (5, AV.int IntKind.i64 a5)]

noncomputable def L11ax.H (t : TD) (n : Nat) (g : Nat → LD) (a5 : Int) : AHeap := [AObj.dead]

def L11ax.inv (t : TD) (n : Nat) (g : Nat → LD) (a5 : Int) : Prop := 0 ≤ a5 ∧ (a5 ≤ (↑n : Int) ∨ a5 ≤ 0)

noncomputable def L11ax.mu (t : TD) (n : Nat) (g : Nat → LD) (a5 : Int) : Nat := ((↑n : Int) - a5).toNat

noncomputable def L11ax.E : L11ax.O → Exit
  | .e0 => Exit.ret
  | .e1 => Exit.exit 0

noncomputable def L11ax.X (t : TD) (n : Nat) (g : Nat → LD) : L11ax.O → List AV
  | .e0 => mkT 38 [(4, (AV.bool false))]
  | .e1 => mkT 38 []

noncomputable def L11ax.XH (t : TD) (n : Nat) (g : Nat → LD) : L11ax.O → AHeap
  | .e0 => ([AObj.dead])
  | .e1 => ([AObj.dead])

noncomputable def L11ax.N (n : Nat) (g : Nat → LD) : Nat → Int → L11ax.O
  | 0, _ => .e0
  | k_ + 1, a5 => (bif decide (a5 < (↑n : Int)) then (bif decide ((↑(g a5.toNat).nm.size : Int) > 100) then (.e0) else (L11ax.N n g k_ (IntKind.i64.wrap (a5 + 1)))) else (.e1))

noncomputable def L11ax.run (n : Nat) (g : Nat → LD) (a5 : Int) : L11ax.O := L11ax.N n g ((((↑n : Int) - a5).toNat) + 1) a5

theorem L11ax.nx (t : TD) (n : Nat) (g : Nat → LD) {k_ : Nat} {z_ : Int} {h_ : AHeap} (s_ : Int) (h1 : L11ax.inv t n g s_) (h2 : L11ax.mu t n g s_ < L11ax.mu t n g z_) (h3 : L11ax.N n g k_ s_ = L11ax.N n g (k_ + 1) z_) (h4 : PopOk (L11ax.H t n g z_) h_ (L11ax.T t n g s_) (L11ax.H t n g s_)) : LNextP (fun (z_ : Int) => L11ax.T t n g z_) (fun (z_ : Int) => L11ax.H t n g z_) (fun (z_ : Int) => L11ax.inv t n g z_) (fun (z_ : Int) => L11ax.mu t n g z_) (fun (k_ : Nat) (z_ : Int) => L11ax.N n g k_ z_) k_ z_ (L11ax.T t n g s_) h_ := LNextP.mk (Tm := (fun (z_ : Int) => L11ax.T t n g z_)) (Hp := (fun (z_ : Int) => L11ax.H t n g z_)) (inv := (fun (z_ : Int) => L11ax.inv t n g z_)) (mu := (fun (z_ : Int) => L11ax.mu t n g z_)) (l := (fun (k_ : Nat) (z_ : Int) => L11ax.N n g k_ z_)) s_ h1 h2 h3 h4

theorem L11ax.en (t : TD) (n : Nat) (g : Nat → LD) {k_ : Nat} {z_ : Int} {h_ : AHeap} (o_ : L11ax.O) (h3 : L11ax.N n g (k_ + 1) z_ = o_) (h4 : PopOk (L11ax.H t n g z_) h_ (L11ax.X t n g o_) (L11ax.XH t n g o_)) : LEndP (fun (z_ : Int) => L11ax.H t n g z_) (fun (k_ : Nat) (z_ : Int) => L11ax.N n g k_ z_) L11ax.E (L11ax.X t n g) (L11ax.XH t n g) k_ z_ (L11ax.E o_) (L11ax.X t n g o_) h_ := LEndP.mk (Hp := (fun (z_ : Int) => L11ax.H t n g z_)) (l := (fun (k_ : Nat) (z_ : Int) => L11ax.N n g k_ z_)) (oE := L11ax.E) (oT := L11ax.X t n g) (oH := L11ax.XH t n g) o_ h3 h4

theorem L11ax.spec (t : TD) (n : Nat) (g : Nat → LD) (hn : n ≤ 9223372036854775807) (k0_1 : decide ((↑t.nm.size : Int) > 100) = false) (p0_1 : ¬(↑t.nm.size : Int) > 100) (k0_2 : decide ((↑n : Int) > 10) = false) (p0_2 : ¬(↑n : Int) > 10) (k_ : Nat) (z_ : Int) (hi_ : L11ax.inv t n g z_) (hm_ : L11ax.mu t n g z_ < k_) : LoopTo Try.prog (loopN Try.f11 0) (L11ax.T t n g z_) (L11ax.H t n g z_) (L11ax.E (L11ax.N n g k_ z_)) (L11ax.X t n g (L11ax.N n g k_ z_)) (L11ax.XH t n g (L11ax.N n g k_ z_)) := by
  refine LoopTo.fuelP mix (fun (z_ : Int) => L11ax.T t n g z_) (fun (z_ : Int) => L11ax.H t n g z_) (fun (z_ : Int) => L11ax.inv t n g z_) (fun (z_ : Int) => L11ax.mu t n g z_) (fun (k_ : Nat) (z_ : Int) => L11ax.N n g k_ z_) L11ax.E (L11ax.X t n g) (L11ax.XH t n g) (others 38 [1, 5]) (others 38 [4]) (others 38 []) ?_ k_ z_ hi_ hm_
  clear hm_ hi_ z_ k_
  intro k_ z_ hinv hmu
  revert hinv hmu; revert z_; intro a5 hinv hmu
  have hinv : 0 ≤ a5 ∧ (a5 ≤ (↑n : Int) ∨ a5 ≤ 0) := hinv
  have hmu : (((↑n : Int) - a5).toNat) < k_ + 1 := hmu
  cases h1 : decide (a5 < (↑n : Int)) with
  | true =>
    have h1p := of_decide_eq_true h1
    have o0 : (0 : Int) ≤ a5 := by first | assumption | omega | (simp_all; done)
    have o1 : a5 < (↑n : Int) := by first | assumption | omega | (simp_all; done)
    cases h2 : decide ((↑(g a5.toNat).nm.size : Int) > 100) with
    | true =>
      have h2p := of_decide_eq_true h2
      exact ⟨[.b true, .b true], kmp (by kernel_rfl) (And.intro h1 (And.intro (And.intro o0 o1) (And.intro h2 (L11ax.en t n g (k_ := k_) (z_ := a5) (.e0 : L11ax.O) (by first | (simp only [L11ax.N, h1, h2, cond_true, cond_false]; done) | (try unfold L11ax.N; try simp only [h1, cond_true, cond_false]; try simp only [h2, cond_true, cond_false]; try rfl; done)) PopOk.same))))⟩
    | false =>
      have h2p := of_decide_eq_false h2
      try have := IntWalk.i64_in (a5 + 1) (by omega)
      have o2 : (0 : Int) ≤ IntKind.i64.wrap (a5 + (1 : Int)) := by first | assumption | omega | (simp_all; done)
      have o3 : IntKind.i64.wrap (a5 + (1 : Int)) ≤ (↑n : Int) ∨ IntKind.i64.wrap (a5 + (1 : Int)) ≤ (0 : Int) := by first | assumption | omega | (simp_all; done)
      have o4 : ((↑n : Int) - IntKind.i64.wrap (a5 + (1 : Int))).toNat < ((↑n : Int) - a5).toNat := by first | assumption | omega | (simp_all; done)
      exact ⟨[.b true, .b false], kmp (by kernel_rfl) (And.intro h1 (And.intro (And.intro o0 o1) (And.intro h2 (L11ax.nx t n g (k_ := k_) (z_ := a5) (IntKind.i64.wrap (a5 + 1)) (And.intro o2 o3) o4 (by first | (simp only [L11ax.N, h1, h2, cond_true, cond_false]; done) | (try unfold L11ax.N; try simp only [h1, cond_true, cond_false]; try simp only [h2, cond_true, cond_false]; try rfl; done)) PopOk.same))))⟩
  | false =>
    have h1p := of_decide_eq_false h1
    exact ⟨[.b false], kmp (by kernel_rfl) (And.intro h1 (L11ax.en t n g (k_ := k_) (z_ := a5) (.e1 : L11ax.O) (by first | (simp only [L11ax.N, h1, cond_true, cond_false]; done) | (try unfold L11ax.N; try simp only [h1, cond_true, cond_false]; try rfl; done)) PopOk.same))⟩

theorem L11ax.e0 (t : TD) (n : Nat) (g : Nat → LD) (hn : n ≤ 9223372036854775807) (k0_1 : decide ((↑t.nm.size : Int) > 100) = false) (p0_1 : ¬(↑t.nm.size : Int) > 100) (k0_2 : decide ((↑n : Int) > 10) = false) (p0_2 : ¬(↑n : Int) > 10) (a5 : Int) (hinv : L11ax.inv t n g a5) (hN : L11ax.run n g a5 = (.e0 : L11ax.O)) : LoopTo Try.prog (loopN Try.f11 0) (L11ax.T t n g a5) (L11ax.H t n g a5) (Exit.ret) (L11ax.X t n g (.e0 : L11ax.O)) (L11ax.XH t n g (.e0 : L11ax.O)) := by
  have h_ := L11ax.spec t n g hn k0_1 p0_1 k0_2 p0_2 ((((↑n : Int) - a5).toNat) + 1) a5 hinv (Nat.lt_succ_self _)
  unfold L11ax.run at hN
  simp only [hN] at h_
  exact h_

theorem L11ax.e1 (t : TD) (n : Nat) (g : Nat → LD) (hn : n ≤ 9223372036854775807) (k0_1 : decide ((↑t.nm.size : Int) > 100) = false) (p0_1 : ¬(↑t.nm.size : Int) > 100) (k0_2 : decide ((↑n : Int) > 10) = false) (p0_2 : ¬(↑n : Int) > 10) (a5 : Int) (hinv : L11ax.inv t n g a5) (hN : L11ax.run n g a5 = (.e1 : L11ax.O)) : LoopTo Try.prog (loopN Try.f11 0) (L11ax.T t n g a5) (L11ax.H t n g a5) (Exit.exit 0) (L11ax.X t n g (.e1 : L11ax.O)) (L11ax.XH t n g (.e1 : L11ax.O)) := by
  have h_ := L11ax.spec t n g hn k0_1 p0_1 k0_2 p0_2 ((((↑n : Int) - a5).toNat) + 1) a5 hinv (Nat.lt_succ_self _)
  unfold L11ax.run at hN
  simp only [hN] at h_
  exact h_

noncomputable def r11.v (t : TD) (n : Nat) (g : Nat → LD) : Bool := (bif decide ((↑t.nm.size : Int) > 100) then false else (bif decide ((↑n : Int) > 10) then (bif decide ((↑n : Int) ≤ 64) then false else (bif decide ((↑n : Int) > 70) then false else (match L11a.run n g 0 with | .e0 => false | .e1 => true ))) else (match L11ax.run n g 0 with | .e0 => false | .e1 => true )))

theorem r11 (t : TD) (n : Nat) (g : Nat → LD) (hn : n ≤ 9223372036854775807) (h : AHeap) : Ret Try.prog 11 ([t.av, lds n g]) h (AV.bool (r11.v t n g)) h := by
  cases h1 : decide ((↑t.nm.size : Int) > 100) with
  | true =>
    have h1p := of_decide_eq_true h1
    exact Ret.of_run1 mix [(AV.bool (r11.v t n g))] Try.func11 rfl [.b true, .b true, .b true, .b true, .b true, .b true, .b true] (by simp) (by simp) (kmp (by kernel_rfl) (And.intro h1 (And.intro h1 (And.intro h1 (And.intro h1 (And.intro h1 (And.intro h1 (And.intro (rfl : true = true) (And.intro (show (AV.bool false) = ((AV.bool (r11.v t n g))) by first | (simp only [r11.v, h1, cond_true, cond_false]; done) | (try unfold r11.v; try simp only [h1, cond_true, cond_false]; try rfl; done) | rfl) trivial))))))))) h
  | false =>
    have h1p := of_decide_eq_false h1
    cases h2 : decide ((↑n : Int) > 10) with
    | true =>
      have h2p := of_decide_eq_true h2
      cases h3 : decide ((↑n : Int) ≤ 64) with
      | true =>
        have h3p := of_decide_eq_true h3
        exact Ret.of_run1 mix [(AV.bool (r11.v t n g))] Try.func11 rfl [.b false, .b false, .b false, .b false, .b true, .b true, .b true, .b true, .b true, .b true, .b true, .b true, .b true, .b false, .b true, .b false, .b true] (by simp) (by simp) (kmp (by kernel_rfl) (And.intro h1 (And.intro h1 (And.intro h1 (And.intro h1 (And.intro h2 (And.intro h2 (And.intro h2 (And.intro h2 (And.intro h3 (And.intro h3 (And.intro h3 (And.intro h2 (And.intro h3 (And.intro h1 (And.intro h2 (And.intro h1 (And.intro (rfl : true = true) (And.intro (show (AV.bool false) = ((AV.bool (r11.v t n g))) by first | (simp only [r11.v, h1, h2, h3, cond_true, cond_false]; done) | (try unfold r11.v; try simp only [h1, cond_true, cond_false]; try simp only [h2, cond_true, cond_false]; try simp only [h3, cond_true, cond_false]; try rfl; done) | rfl) trivial))))))))))))))))))) h
      | false =>
        have h3p := of_decide_eq_false h3
        cases h4 : decide ((↑n : Int) > 70) with
        | true =>
          have h4p := of_decide_eq_true h4
          exact Ret.of_run1 mix [(AV.bool (r11.v t n g))] Try.func11 rfl [.b false, .b false, .b false, .b false, .b true, .b true, .b true, .b true, .b false, .b false, .b false, .b true, .b false, .b false, .b true, .b false, .b true] (by simp) (by simp) (kmp (by kernel_rfl) (And.intro h1 (And.intro h1 (And.intro h1 (And.intro h1 (And.intro h2 (And.intro h2 (And.intro h2 (And.intro h2 (And.intro h3 (And.intro h3 (And.intro h3 (And.intro h2 (And.intro h3 (And.intro h1 (And.intro h2 (And.intro h1 (And.intro h4 (And.intro (show (AV.bool false) = ((AV.bool (r11.v t n g))) by first | (simp only [r11.v, h1, h2, h3, h4, cond_true, cond_false]; done) | (try unfold r11.v; try simp only [h1, cond_true, cond_false]; try simp only [h2, cond_true, cond_false]; try simp only [h3, cond_true, cond_false]; try simp only [h4, cond_true, cond_false]; try rfl; done) | rfl) trivial))))))))))))))))))) h
        | false =>
          have h4p := of_decide_eq_false h4
          have o0 : n ≤ (9223372036854775807 : Nat) := by first | assumption | omega | (simp_all; done)
          have o1 : decide ((↑t.nm.size : Int) > (100 : Int)) = false := by first | assumption | omega | (simp_all; done)
          have o2 : ¬(↑t.nm.size : Int) > (100 : Int) := by first | assumption | (simp_all; done)
          have o3 : decide ((↑n : Int) > (10 : Int)) = true := by first | assumption | omega | (simp_all; done)
          have o4 : (↑n : Int) > (10 : Int) := by first | assumption | omega | (simp_all; done)
          have o5 : decide ((↑n : Int) ≤ (64 : Int)) = false := by first | assumption | omega | (simp_all; done)
          have o6 : ¬(↑n : Int) ≤ (64 : Int) := by first | assumption | (simp_all; done)
          have o7 : decide ((↑n : Int) > (70 : Int)) = false := by first | assumption | omega | (simp_all; done)
          have o8 : ¬(↑n : Int) > (70 : Int) := by first | assumption | (simp_all; done)
          have o9 : (0 : Int) ≤ (↑n : Int) ∨ (0 : Int) ≤ (0 : Int) := by first | assumption | omega | (simp_all; done)
          cases h5 : L11a.run n g 0 with
          | e0 =>
            exact Ret.of_run1 mix [(AV.bool (r11.v t n g))] Try.func11 rfl [.b false, .b false, .b false, .b false, .b true, .b true, .b true, .b true, .b false, .b false, .b false, .b true, .b false, .b false, .b true, .b false, .b false, .virt [0] [], .loop (others 38 [1, 5]) (Exit.ret) (L11a.X t n g L11a.O.e0) (L11a.XH t n g L11a.O.e0)] (by simp) (by simp) (kmp (by kernel_rfl) (And.intro h1 (And.intro h1 (And.intro h1 (And.intro h1 (And.intro h2 (And.intro h2 (And.intro h2 (And.intro h2 (And.intro h3 (And.intro h3 (And.intro h3 (And.intro h2 (And.intro h3 (And.intro h1 (And.intro h2 (And.intro h1 (And.intro h4 (And.intro trivial (And.intro (L11a.e0 (t) (n) (g) o0 o1 o2 o3 o4 o5 o6 o7 o8 (0) (And.intro (show (0 : Int) ≤ (0 : Int) by first | decide | exact Int.NonNeg.mk _) o9) h5) (And.intro (show (AV.bool false) = ((AV.bool (r11.v t n g))) by first | (simp only [r11.v, h1, h2, h3, h4, h5, cond_true, cond_false]; done) | (try unfold r11.v; try simp only [h1, cond_true, cond_false]; try simp only [h2, cond_true, cond_false]; try simp only [h3, cond_true, cond_false]; try simp only [h4, cond_true, cond_false]; try simp only [h5, cond_true, cond_false]; try rfl; done) | rfl) trivial))))))))))))))))))))) h
          | e1 =>
            exact Ret.of_run1 mix [(AV.bool (r11.v t n g))] Try.func11 rfl [.b false, .b false, .b false, .b false, .b true, .b true, .b true, .b true, .b false, .b false, .b false, .b true, .b false, .b false, .b true, .b false, .b false, .virt [0] [], .loop (others 38 [1, 5]) (Exit.exit 0) (L11a.X t n g L11a.O.e1) (L11a.XH t n g L11a.O.e1)] (by simp) (by simp) (kmp (by kernel_rfl) (And.intro h1 (And.intro h1 (And.intro h1 (And.intro h1 (And.intro h2 (And.intro h2 (And.intro h2 (And.intro h2 (And.intro h3 (And.intro h3 (And.intro h3 (And.intro h2 (And.intro h3 (And.intro h1 (And.intro h2 (And.intro h1 (And.intro h4 (And.intro trivial (And.intro (L11a.e1 (t) (n) (g) o0 o1 o2 o3 o4 o5 o6 o7 o8 (0) (And.intro (show (0 : Int) ≤ (0 : Int) by first | decide | exact Int.NonNeg.mk _) o9) h5) (And.intro (show (AV.bool true) = ((AV.bool (r11.v t n g))) by first | (simp only [r11.v, h1, h2, h3, h4, h5, cond_true, cond_false]; done) | (try unfold r11.v; try simp only [h1, cond_true, cond_false]; try simp only [h2, cond_true, cond_false]; try simp only [h3, cond_true, cond_false]; try simp only [h4, cond_true, cond_false]; try simp only [h5, cond_true, cond_false]; try rfl; done) | rfl) trivial))))))))))))))))))))) h
    | false =>
      have h2p := of_decide_eq_false h2
      have o0 : n ≤ (9223372036854775807 : Nat) := by first | assumption | omega | (simp_all; done)
      have o1 : decide ((↑t.nm.size : Int) > (100 : Int)) = false := by first | assumption | omega | (simp_all; done)
      have o2 : ¬(↑t.nm.size : Int) > (100 : Int) := by first | assumption | (simp_all; done)
      have o10 : decide ((↑n : Int) > (10 : Int)) = false := by first | assumption | omega | (simp_all; done)
      have o11 : ¬(↑n : Int) > (10 : Int) := by first | assumption | (simp_all; done)
      have o9 : (0 : Int) ≤ (↑n : Int) ∨ (0 : Int) ≤ (0 : Int) := by first | assumption | omega | (simp_all; done)
      cases h3 : L11ax.run n g 0 with
      | e0 =>
        exact Ret.of_run1 mix [(AV.bool (r11.v t n g))] Try.func11 rfl [.b false, .b false, .b false, .b false, .b false, .b false, .b false, .b false, .b false, .b false, .b false, .b false, .b false, .virt [0] [], .loop (others 38 [1, 5]) (Exit.ret) (L11ax.X t n g L11ax.O.e0) (L11ax.XH t n g L11ax.O.e0)] (by simp) (by simp) (kmp (by kernel_rfl) (And.intro h1 (And.intro h1 (And.intro h1 (And.intro h1 (And.intro h2 (And.intro h2 (And.intro h2 (And.intro h2 (And.intro h2 (And.intro h1 (And.intro h2 (And.intro h1 (And.intro (rfl : false = false) (And.intro trivial (And.intro (L11ax.e0 (t) (n) (g) o0 o1 o2 o10 o11 (0) (And.intro (show (0 : Int) ≤ (0 : Int) by first | decide | exact Int.NonNeg.mk _) o9) h3) (And.intro (show (AV.bool false) = ((AV.bool (r11.v t n g))) by first | (simp only [r11.v, h1, h2, h3, cond_true, cond_false]; done) | (try unfold r11.v; try simp only [h1, cond_true, cond_false]; try simp only [h2, cond_true, cond_false]; try simp only [h3, cond_true, cond_false]; try rfl; done) | rfl) trivial))))))))))))))))) h
      | e1 =>
        exact Ret.of_run1 mix [(AV.bool (r11.v t n g))] Try.func11 rfl [.b false, .b false, .b false, .b false, .b false, .b false, .b false, .b false, .b false, .b false, .b false, .b false, .b false, .virt [0] [], .loop (others 38 [1, 5]) (Exit.exit 0) (L11ax.X t n g L11ax.O.e1) (L11ax.XH t n g L11ax.O.e1)] (by simp) (by simp) (kmp (by kernel_rfl) (And.intro h1 (And.intro h1 (And.intro h1 (And.intro h1 (And.intro h2 (And.intro h2 (And.intro h2 (And.intro h2 (And.intro h2 (And.intro h1 (And.intro h2 (And.intro h1 (And.intro (rfl : false = false) (And.intro trivial (And.intro (L11ax.e1 (t) (n) (g) o0 o1 o2 o10 o11 (0) (And.intro (show (0 : Int) ≤ (0 : Int) by first | decide | exact Int.NonNeg.mk _) o9) h3) (And.intro (show (AV.bool true) = ((AV.bool (r11.v t n g))) by first | (simp only [r11.v, h1, h2, h3, cond_true, cond_false]; done) | (try unfold r11.v; try simp only [h1, cond_true, cond_false]; try simp only [h2, cond_true, cond_false]; try simp only [h3, cond_true, cond_false]; try rfl; done) | rfl) trivial))))))))))))))))) h

inductive L74aa.O where
  | e0 (a0 : Int)
  | e1

noncomputable def L74aa.T (n : Nat) (g : Nat → LD) (a8 : Int) : List AV := mkT 19 [(0, AV.sl 4 n fun (i : Nat) => AV.agg [AV.str (g i).nm, AV.int IntKind.i64 (g i).lo, AV.int IntKind.i64 (g i).ln, AV.int IntKind.i64 (g i).ms]), (1, AV.fn 48 []), (7, AV.int IntKind.i64 (↑n : Int)), (8, AV.int IntKind.i64 a8)]

noncomputable def L74aa.H (n : Nat) (g : Nat → LD) (a8 : Int) : AHeap := []

def L74aa.inv (n : Nat) (g : Nat → LD) (a8 : Int) : Prop := 0 ≤ a8 ∧ (a8 ≤ (↑n : Int) ∨ a8 ≤ 0)

noncomputable def L74aa.mu (n : Nat) (g : Nat → LD) (a8 : Int) : Nat := ((↑n : Int) - a8).toNat

noncomputable def L74aa.E : L74aa.O → Exit
  | .e0 a0 => Exit.ret
  | .e1 => Exit.exit 0

noncomputable def L74aa.X (n : Nat) (g : Nat → LD) : L74aa.O → List AV
  | .e0 a0 => mkT 19 [(4, (AV.int IntKind.i64 a0))]
  | .e1 => mkT 19 []

noncomputable def L74aa.XH (n : Nat) (g : Nat → LD) : L74aa.O → AHeap
  | .e0 a0 => ([])
  | .e1 => ([])

noncomputable def L74aa.N (n : Nat) (g : Nat → LD) : Nat → Int → L74aa.O
  | 0, a8 => .e0 a8
  | k_ + 1, a8 => (bif decide (a8 < (↑n : Int)) then (bif r48.v (g a8.toNat) then (.e0 (a8)) else (L74aa.N n g k_ (IntKind.i64.wrap (a8 + 1)))) else (.e1))

noncomputable def L74aa.run (n : Nat) (g : Nat → LD) (a8 : Int) : L74aa.O := L74aa.N n g ((((↑n : Int) - a8).toNat) + 1) a8

theorem L74aa.nx (n : Nat) (g : Nat → LD) {k_ : Nat} {z_ : Int} {h_ : AHeap} (s_ : Int) (h1 : L74aa.inv n g s_) (h2 : L74aa.mu n g s_ < L74aa.mu n g z_) (h3 : L74aa.N n g k_ s_ = L74aa.N n g (k_ + 1) z_) (h4 : PopOk (L74aa.H n g z_) h_ (L74aa.T n g s_) (L74aa.H n g s_)) : LNextP (fun (z_ : Int) => L74aa.T n g z_) (fun (z_ : Int) => L74aa.H n g z_) (fun (z_ : Int) => L74aa.inv n g z_) (fun (z_ : Int) => L74aa.mu n g z_) (fun (k_ : Nat) (z_ : Int) => L74aa.N n g k_ z_) k_ z_ (L74aa.T n g s_) h_ := LNextP.mk (Tm := (fun (z_ : Int) => L74aa.T n g z_)) (Hp := (fun (z_ : Int) => L74aa.H n g z_)) (inv := (fun (z_ : Int) => L74aa.inv n g z_)) (mu := (fun (z_ : Int) => L74aa.mu n g z_)) (l := (fun (k_ : Nat) (z_ : Int) => L74aa.N n g k_ z_)) s_ h1 h2 h3 h4

theorem L74aa.en (n : Nat) (g : Nat → LD) {k_ : Nat} {z_ : Int} {h_ : AHeap} (o_ : L74aa.O) (h3 : L74aa.N n g (k_ + 1) z_ = o_) (h4 : PopOk (L74aa.H n g z_) h_ (L74aa.X n g o_) (L74aa.XH n g o_)) : LEndP (fun (z_ : Int) => L74aa.H n g z_) (fun (k_ : Nat) (z_ : Int) => L74aa.N n g k_ z_) L74aa.E (L74aa.X n g) (L74aa.XH n g) k_ z_ (L74aa.E o_) (L74aa.X n g o_) h_ := LEndP.mk (Hp := (fun (z_ : Int) => L74aa.H n g z_)) (l := (fun (k_ : Nat) (z_ : Int) => L74aa.N n g k_ z_)) (oE := L74aa.E) (oT := L74aa.X n g) (oH := L74aa.XH n g) o_ h3 h4

theorem L74aa.spec (n : Nat) (g : Nat → LD) (hn : n ≤ 9223372036854775807) (hg : ∀ (i : Nat), (g i).nm.size ≤ 9223372036854775807) (k_ : Nat) (z_ : Int) (hi_ : L74aa.inv n g z_) (hm_ : L74aa.mu n g z_ < k_) : LoopTo Try.prog (loopN Try.f74 0) (L74aa.T n g z_) (L74aa.H n g z_) (L74aa.E (L74aa.N n g k_ z_)) (L74aa.X n g (L74aa.N n g k_ z_)) (L74aa.XH n g (L74aa.N n g k_ z_)) := by
  refine LoopTo.fuelP mix (fun (z_ : Int) => L74aa.T n g z_) (fun (z_ : Int) => L74aa.H n g z_) (fun (z_ : Int) => L74aa.inv n g z_) (fun (z_ : Int) => L74aa.mu n g z_) (fun (k_ : Nat) (z_ : Int) => L74aa.N n g k_ z_) L74aa.E (L74aa.X n g) (L74aa.XH n g) (others 19 [0, 1, 7, 8]) (others 19 [4]) (others 19 []) ?_ k_ z_ hi_ hm_
  clear hm_ hi_ z_ k_
  intro k_ z_ hinv hmu
  revert hinv hmu; revert z_; intro a8 hinv hmu
  have hinv : 0 ≤ a8 ∧ (a8 ≤ (↑n : Int) ∨ a8 ≤ 0) := hinv
  have hmu : (((↑n : Int) - a8).toNat) < k_ + 1 := hmu
  cases h1 : decide (a8 < (↑n : Int)) with
  | true =>
    have h1p := of_decide_eq_true h1
    have o0 : (0 : Int) ≤ a8 := by first | assumption | omega | (exact hg _) | (exact hg _ (by omega)) | (simp_all; done)
    have o1 : a8 < (↑n : Int) := by first | assumption | omega | (exact hg _) | (exact hg _ (by omega)) | (simp_all; done)
    have o2 : (g a8.toNat).nm.size ≤ (9223372036854775807 : Nat) := by first | assumption | omega | (exact hg _) | (exact hg _ (by omega)) | (simp_all; done)
    cases h2 : r48.v (g a8.toNat) with
    | true =>
      exact ⟨[.b true, .ret (AV.bool (r48.v (g a8.toNat))) ([]), .b true], kmp (by kernel_rfl) (And.intro h1 (And.intro (And.intro o0 o1) (And.intro (r48 (g a8.toNat) o2 ([])) (And.intro h2 (L74aa.en n g (k_ := k_) (z_ := a8) (.e0 (a8) : L74aa.O) (by first | (simp only [L74aa.N, h1, h2, cond_true, cond_false]; done) | (try unfold L74aa.N; try simp only [h1, cond_true, cond_false]; try simp only [h2, cond_true, cond_false]; try rfl; done)) PopOk.same)))))⟩
    | false =>
      try have := IntWalk.i64_in (a8 + 1) (by omega)
      have o3 : (0 : Int) ≤ IntKind.i64.wrap (a8 + (1 : Int)) := by first | assumption | omega | (exact hg _) | (exact hg _ (by omega)) | (simp_all; done)
      have o4 : IntKind.i64.wrap (a8 + (1 : Int)) ≤ (↑n : Int) ∨ IntKind.i64.wrap (a8 + (1 : Int)) ≤ (0 : Int) := by first | assumption | omega | (exact hg _) | (exact hg _ (by omega)) | (simp_all; done)
      have o5 : ((↑n : Int) - IntKind.i64.wrap (a8 + (1 : Int))).toNat < ((↑n : Int) - a8).toNat := by first | assumption | omega | (exact hg _) | (exact hg _ (by omega)) | (simp_all; done)
      exact ⟨[.b true, .ret (AV.bool (r48.v (g a8.toNat))) ([]), .b false], kmp (by kernel_rfl) (And.intro h1 (And.intro (And.intro o0 o1) (And.intro (r48 (g a8.toNat) o2 ([])) (And.intro h2 (L74aa.nx n g (k_ := k_) (z_ := a8) (IntKind.i64.wrap (a8 + 1)) (And.intro o3 o4) o5 (by first | (simp only [L74aa.N, h1, h2, cond_true, cond_false]; done) | (try unfold L74aa.N; try simp only [h1, cond_true, cond_false]; try simp only [h2, cond_true, cond_false]; try rfl; done)) PopOk.same)))))⟩
  | false =>
    have h1p := of_decide_eq_false h1
    exact ⟨[.b false], kmp (by kernel_rfl) (And.intro h1 (L74aa.en n g (k_ := k_) (z_ := a8) (.e1 : L74aa.O) (by first | (simp only [L74aa.N, h1, cond_true, cond_false]; done) | (try unfold L74aa.N; try simp only [h1, cond_true, cond_false]; try rfl; done)) PopOk.same))⟩

theorem L74aa.e0 (n : Nat) (g : Nat → LD) (hn : n ≤ 9223372036854775807) (hg : ∀ (i : Nat), (g i).nm.size ≤ 9223372036854775807) (a8 : Int) (hinv : L74aa.inv n g a8) (a0 : Int) (hN : L74aa.run n g a8 = (.e0 a0 : L74aa.O)) : LoopTo Try.prog (loopN Try.f74 0) (L74aa.T n g a8) (L74aa.H n g a8) (Exit.ret) (L74aa.X n g (.e0 a0 : L74aa.O)) (L74aa.XH n g (.e0 a0 : L74aa.O)) := by
  have h_ := L74aa.spec n g hn hg ((((↑n : Int) - a8).toNat) + 1) a8 hinv (Nat.lt_succ_self _)
  unfold L74aa.run at hN
  simp only [hN] at h_
  exact h_

theorem L74aa.e1 (n : Nat) (g : Nat → LD) (hn : n ≤ 9223372036854775807) (hg : ∀ (i : Nat), (g i).nm.size ≤ 9223372036854775807) (a8 : Int) (hinv : L74aa.inv n g a8) (hN : L74aa.run n g a8 = (.e1 : L74aa.O)) : LoopTo Try.prog (loopN Try.f74 0) (L74aa.T n g a8) (L74aa.H n g a8) (Exit.exit 0) (L74aa.X n g (.e1 : L74aa.O)) (L74aa.XH n g (.e1 : L74aa.O)) := by
  have h_ := L74aa.spec n g hn hg ((((↑n : Int) - a8).toNat) + 1) a8 hinv (Nat.lt_succ_self _)
  unfold L74aa.run at hN
  simp only [hN] at h_
  exact h_

noncomputable def r74a.v (n : Nat) (g : Nat → LD) : Int := (match L74aa.run n g 0 with | .e0 h1d0 => h1d0 | .e1 => -1 )

theorem r74a (n : Nat) (g : Nat → LD) (hn : n ≤ 9223372036854775807) (hg : ∀ (i : Nat), (g i).nm.size ≤ 9223372036854775807) (h : AHeap) : Ret Try.prog 74 ([lds n g, AV.fn 48 []]) h (AV.int IntKind.i64 (r74a.v n g)) h := by
  have o0 : n ≤ (9223372036854775807 : Nat) := by first | assumption | omega | (exact hg _) | (exact hg _ (by omega)) | (simp_all; done)
  have o1 : ∀ (i : Nat), (g i).nm.size ≤ (9223372036854775807 : Nat) := by first | assumption | omega | (exact hg _) | (exact hg _ (by omega)) | (simp_all; done)
  have o2 : (0 : Int) ≤ (↑n : Int) ∨ (0 : Int) ≤ (0 : Int) := by first | assumption | omega | (exact hg _) | (exact hg _ (by omega)) | (simp_all; done)
  cases h1 : L74aa.run n g 0 with
  | e0 h1d0 =>
    exact Ret.of_run1 mix [(AV.int IntKind.i64 (r74a.v n g))] Try.func74 rfl [.loop (others 19 [0, 1, 7, 8]) (Exit.ret) (L74aa.X n g (L74aa.O.e0 h1d0)) (L74aa.XH n g (L74aa.O.e0 h1d0))] (by simp) (by simp) (kmp (by kernel_rfl) (And.intro (L74aa.e0 (n) (g) o0 o1 (0) (And.intro (show (0 : Int) ≤ (0 : Int) by first | decide | exact Int.NonNeg.mk _) o2) h1d0 h1) (And.intro (show (AV.int IntKind.i64 h1d0) = ((AV.int IntKind.i64 (r74a.v n g))) by first | (simp only [r74a.v, h1, cond_true, cond_false]; done) | (try unfold r74a.v; try simp only [h1, cond_true, cond_false]; try rfl; done) | rfl) trivial))) h
  | e1 =>
    exact Ret.of_run1 mix [(AV.int IntKind.i64 (r74a.v n g))] Try.func74 rfl [.loop (others 19 [0, 1, 7, 8]) (Exit.exit 0) (L74aa.X n g L74aa.O.e1) (L74aa.XH n g L74aa.O.e1)] (by simp) (by simp) (kmp (by kernel_rfl) (And.intro (L74aa.e1 (n) (g) o0 o1 (0) (And.intro (show (0 : Int) ≤ (0 : Int) by first | decide | exact Int.NonNeg.mk _) o2) h1) (And.intro (show (AV.int IntKind.i64 (-1)) = ((AV.int IntKind.i64 (r74a.v n g))) by first | (simp only [r74a.v, h1, cond_true, cond_false]; done) | (try unfold r74a.v; try simp only [h1, cond_true, cond_false]; try rfl; done) | rfl) trivial))) h

noncomputable def r47a.v (n : Nat) (g : Nat → LD) : Bool := decide (r74a.v n g ≥ 0)

theorem r47a (n : Nat) (g : Nat → LD) (hn : n ≤ 9223372036854775807) (hg : ∀ (i : Nat), (g i).nm.size ≤ 9223372036854775807) (h : AHeap) : Ret Try.prog 47 ([lds n g, AV.fn 48 []]) h (AV.bool (r47a.v n g)) h := by
  have o0 : n ≤ (9223372036854775807 : Nat) := by first | assumption | omega | (exact hg _) | (exact hg _ (by omega)) | (simp_all; done)
  have o1 : ∀ (i : Nat), (g i).nm.size ≤ (9223372036854775807 : Nat) := by first | assumption | omega | (exact hg _) | (exact hg _ (by omega)) | (simp_all; done)
  exact Ret.of_run1 mix [(AV.bool (r47a.v n g))] Try.func47 rfl [.ret (AV.int IntKind.i64 (r74a.v n g)) ([])] (by simp) (by simp) (kmp (by kernel_rfl) (And.intro (r74a (n) (g) o0 o1 ([])) (And.intro (show (AV.bool (decide (r74a.v n g ≥ 0))) = ((AV.bool (r47a.v n g))) by first | (simp only [r47a.v, cond_true, cond_false]; done) | (try unfold r47a.v; try rfl; done) | rfl) trivial))) h

inductive L74ba.O where
  | e0 (a0 : Int)
  | e1

noncomputable def L74ba.T (n : Nat) (g : Nat → LD) (a8 : Int) : List AV := mkT 19 [(0, AV.sl 4 n fun (i : Nat) => AV.agg [AV.str (g i).nm, AV.int IntKind.i64 (g i).lo, AV.int IntKind.i64 (g i).ln, AV.int IntKind.i64 (g i).ms]), (1, AV.fn 49 []), (7, AV.int IntKind.i64 (↑n : Int)), (8, AV.int IntKind.i64 a8)]

noncomputable def L74ba.H (n : Nat) (g : Nat → LD) (a8 : Int) : AHeap := []

def L74ba.inv (n : Nat) (g : Nat → LD) (a8 : Int) : Prop := 0 ≤ a8 ∧ (a8 ≤ (↑n : Int) ∨ a8 ≤ 0)

noncomputable def L74ba.mu (n : Nat) (g : Nat → LD) (a8 : Int) : Nat := ((↑n : Int) - a8).toNat

noncomputable def L74ba.E : L74ba.O → Exit
  | .e0 a0 => Exit.ret
  | .e1 => Exit.exit 0

noncomputable def L74ba.X (n : Nat) (g : Nat → LD) : L74ba.O → List AV
  | .e0 a0 => mkT 19 [(4, (AV.int IntKind.i64 a0))]
  | .e1 => mkT 19 []

noncomputable def L74ba.XH (n : Nat) (g : Nat → LD) : L74ba.O → AHeap
  | .e0 a0 => ([])
  | .e1 => ([])

noncomputable def L74ba.N (n : Nat) (g : Nat → LD) : Nat → Int → L74ba.O
  | 0, a8 => .e0 a8
  | k_ + 1, a8 => (bif decide (a8 < (↑n : Int)) then (bif r49.v (g a8.toNat) then (.e0 (a8)) else (L74ba.N n g k_ (IntKind.i64.wrap (a8 + 1)))) else (.e1))

noncomputable def L74ba.run (n : Nat) (g : Nat → LD) (a8 : Int) : L74ba.O := L74ba.N n g ((((↑n : Int) - a8).toNat) + 1) a8

theorem L74ba.nx (n : Nat) (g : Nat → LD) {k_ : Nat} {z_ : Int} {h_ : AHeap} (s_ : Int) (h1 : L74ba.inv n g s_) (h2 : L74ba.mu n g s_ < L74ba.mu n g z_) (h3 : L74ba.N n g k_ s_ = L74ba.N n g (k_ + 1) z_) (h4 : PopOk (L74ba.H n g z_) h_ (L74ba.T n g s_) (L74ba.H n g s_)) : LNextP (fun (z_ : Int) => L74ba.T n g z_) (fun (z_ : Int) => L74ba.H n g z_) (fun (z_ : Int) => L74ba.inv n g z_) (fun (z_ : Int) => L74ba.mu n g z_) (fun (k_ : Nat) (z_ : Int) => L74ba.N n g k_ z_) k_ z_ (L74ba.T n g s_) h_ := LNextP.mk (Tm := (fun (z_ : Int) => L74ba.T n g z_)) (Hp := (fun (z_ : Int) => L74ba.H n g z_)) (inv := (fun (z_ : Int) => L74ba.inv n g z_)) (mu := (fun (z_ : Int) => L74ba.mu n g z_)) (l := (fun (k_ : Nat) (z_ : Int) => L74ba.N n g k_ z_)) s_ h1 h2 h3 h4

theorem L74ba.en (n : Nat) (g : Nat → LD) {k_ : Nat} {z_ : Int} {h_ : AHeap} (o_ : L74ba.O) (h3 : L74ba.N n g (k_ + 1) z_ = o_) (h4 : PopOk (L74ba.H n g z_) h_ (L74ba.X n g o_) (L74ba.XH n g o_)) : LEndP (fun (z_ : Int) => L74ba.H n g z_) (fun (k_ : Nat) (z_ : Int) => L74ba.N n g k_ z_) L74ba.E (L74ba.X n g) (L74ba.XH n g) k_ z_ (L74ba.E o_) (L74ba.X n g o_) h_ := LEndP.mk (Hp := (fun (z_ : Int) => L74ba.H n g z_)) (l := (fun (k_ : Nat) (z_ : Int) => L74ba.N n g k_ z_)) (oE := L74ba.E) (oT := L74ba.X n g) (oH := L74ba.XH n g) o_ h3 h4

theorem L74ba.spec (n : Nat) (g : Nat → LD) (hn : n ≤ 9223372036854775807) (k_ : Nat) (z_ : Int) (hi_ : L74ba.inv n g z_) (hm_ : L74ba.mu n g z_ < k_) : LoopTo Try.prog (loopN Try.f74 0) (L74ba.T n g z_) (L74ba.H n g z_) (L74ba.E (L74ba.N n g k_ z_)) (L74ba.X n g (L74ba.N n g k_ z_)) (L74ba.XH n g (L74ba.N n g k_ z_)) := by
  refine LoopTo.fuelP mix (fun (z_ : Int) => L74ba.T n g z_) (fun (z_ : Int) => L74ba.H n g z_) (fun (z_ : Int) => L74ba.inv n g z_) (fun (z_ : Int) => L74ba.mu n g z_) (fun (k_ : Nat) (z_ : Int) => L74ba.N n g k_ z_) L74ba.E (L74ba.X n g) (L74ba.XH n g) (others 19 [0, 1, 7, 8]) (others 19 [4]) (others 19 []) ?_ k_ z_ hi_ hm_
  clear hm_ hi_ z_ k_
  intro k_ z_ hinv hmu
  revert hinv hmu; revert z_; intro a8 hinv hmu
  have hinv : 0 ≤ a8 ∧ (a8 ≤ (↑n : Int) ∨ a8 ≤ 0) := hinv
  have hmu : (((↑n : Int) - a8).toNat) < k_ + 1 := hmu
  cases h1 : decide (a8 < (↑n : Int)) with
  | true =>
    have h1p := of_decide_eq_true h1
    have o0 : (0 : Int) ≤ a8 := by first | assumption | omega | (simp_all; done)
    have o1 : a8 < (↑n : Int) := by first | assumption | omega | (simp_all; done)
    cases h2 : r49.v (g a8.toNat) with
    | true =>
      exact ⟨[.b true, .ret (AV.bool (r49.v (g a8.toNat))) ([]), .b true], kmp (by kernel_rfl) (And.intro h1 (And.intro (And.intro o0 o1) (And.intro (r49 (g a8.toNat) ([])) (And.intro h2 (L74ba.en n g (k_ := k_) (z_ := a8) (.e0 (a8) : L74ba.O) (by first | (simp only [L74ba.N, h1, h2, cond_true, cond_false]; done) | (try unfold L74ba.N; try simp only [h1, cond_true, cond_false]; try simp only [h2, cond_true, cond_false]; try rfl; done)) PopOk.same)))))⟩
    | false =>
      try have := IntWalk.i64_in (a8 + 1) (by omega)
      have o2 : (0 : Int) ≤ IntKind.i64.wrap (a8 + (1 : Int)) := by first | assumption | omega | (simp_all; done)
      have o3 : IntKind.i64.wrap (a8 + (1 : Int)) ≤ (↑n : Int) ∨ IntKind.i64.wrap (a8 + (1 : Int)) ≤ (0 : Int) := by first | assumption | omega | (simp_all; done)
      have o4 : ((↑n : Int) - IntKind.i64.wrap (a8 + (1 : Int))).toNat < ((↑n : Int) - a8).toNat := by first | assumption | omega | (simp_all; done)
      exact ⟨[.b true, .ret (AV.bool (r49.v (g a8.toNat))) ([]), .b false], kmp (by kernel_rfl) (And.intro h1 (And.intro (And.intro o0 o1) (And.intro (r49 (g a8.toNat) ([])) (And.intro h2 (L74ba.nx n g (k_ := k_) (z_ := a8) (IntKind.i64.wrap (a8 + 1)) (And.intro o2 o3) o4 (by first | (simp only [L74ba.N, h1, h2, cond_true, cond_false]; done) | (try unfold L74ba.N; try simp only [h1, cond_true, cond_false]; try simp only [h2, cond_true, cond_false]; try rfl; done)) PopOk.same)))))⟩
  | false =>
    have h1p := of_decide_eq_false h1
    exact ⟨[.b false], kmp (by kernel_rfl) (And.intro h1 (L74ba.en n g (k_ := k_) (z_ := a8) (.e1 : L74ba.O) (by first | (simp only [L74ba.N, h1, cond_true, cond_false]; done) | (try unfold L74ba.N; try simp only [h1, cond_true, cond_false]; try rfl; done)) PopOk.same))⟩

theorem L74ba.e0 (n : Nat) (g : Nat → LD) (hn : n ≤ 9223372036854775807) (a8 : Int) (hinv : L74ba.inv n g a8) (a0 : Int) (hN : L74ba.run n g a8 = (.e0 a0 : L74ba.O)) : LoopTo Try.prog (loopN Try.f74 0) (L74ba.T n g a8) (L74ba.H n g a8) (Exit.ret) (L74ba.X n g (.e0 a0 : L74ba.O)) (L74ba.XH n g (.e0 a0 : L74ba.O)) := by
  have h_ := L74ba.spec n g hn ((((↑n : Int) - a8).toNat) + 1) a8 hinv (Nat.lt_succ_self _)
  unfold L74ba.run at hN
  simp only [hN] at h_
  exact h_

theorem L74ba.e1 (n : Nat) (g : Nat → LD) (hn : n ≤ 9223372036854775807) (a8 : Int) (hinv : L74ba.inv n g a8) (hN : L74ba.run n g a8 = (.e1 : L74ba.O)) : LoopTo Try.prog (loopN Try.f74 0) (L74ba.T n g a8) (L74ba.H n g a8) (Exit.exit 0) (L74ba.X n g (.e1 : L74ba.O)) (L74ba.XH n g (.e1 : L74ba.O)) := by
  have h_ := L74ba.spec n g hn ((((↑n : Int) - a8).toNat) + 1) a8 hinv (Nat.lt_succ_self _)
  unfold L74ba.run at hN
  simp only [hN] at h_
  exact h_

noncomputable def r74b.v (n : Nat) (g : Nat → LD) : Int := (match L74ba.run n g 0 with | .e0 h1d0 => h1d0 | .e1 => -1 )

theorem r74b (n : Nat) (g : Nat → LD) (hn : n ≤ 9223372036854775807) (h : AHeap) : Ret Try.prog 74 ([lds n g, AV.fn 49 []]) h (AV.int IntKind.i64 (r74b.v n g)) h := by
  have o0 : n ≤ (9223372036854775807 : Nat) := by first | assumption | omega | (simp_all; done)
  have o1 : (0 : Int) ≤ (↑n : Int) ∨ (0 : Int) ≤ (0 : Int) := by first | assumption | omega | (simp_all; done)
  cases h1 : L74ba.run n g 0 with
  | e0 h1d0 =>
    exact Ret.of_run1 mix [(AV.int IntKind.i64 (r74b.v n g))] Try.func74 rfl [.loop (others 19 [0, 1, 7, 8]) (Exit.ret) (L74ba.X n g (L74ba.O.e0 h1d0)) (L74ba.XH n g (L74ba.O.e0 h1d0))] (by simp) (by simp) (kmp (by kernel_rfl) (And.intro (L74ba.e0 (n) (g) o0 (0) (And.intro (show (0 : Int) ≤ (0 : Int) by first | decide | exact Int.NonNeg.mk _) o1) h1d0 h1) (And.intro (show (AV.int IntKind.i64 h1d0) = ((AV.int IntKind.i64 (r74b.v n g))) by first | (simp only [r74b.v, h1, cond_true, cond_false]; done) | (try unfold r74b.v; try simp only [h1, cond_true, cond_false]; try rfl; done) | rfl) trivial))) h
  | e1 =>
    exact Ret.of_run1 mix [(AV.int IntKind.i64 (r74b.v n g))] Try.func74 rfl [.loop (others 19 [0, 1, 7, 8]) (Exit.exit 0) (L74ba.X n g L74ba.O.e1) (L74ba.XH n g L74ba.O.e1)] (by simp) (by simp) (kmp (by kernel_rfl) (And.intro (L74ba.e1 (n) (g) o0 (0) (And.intro (show (0 : Int) ≤ (0 : Int) by first | decide | exact Int.NonNeg.mk _) o1) h1) (And.intro (show (AV.int IntKind.i64 (-1)) = ((AV.int IntKind.i64 (r74b.v n g))) by first | (simp only [r74b.v, h1, cond_true, cond_false]; done) | (try unfold r74b.v; try simp only [h1, cond_true, cond_false]; try rfl; done) | rfl) trivial))) h

noncomputable def r47b.v (n : Nat) (g : Nat → LD) : Bool := decide (r74b.v n g ≥ 0)

theorem r47b (n : Nat) (g : Nat → LD) (hn : n ≤ 9223372036854775807) (h : AHeap) : Ret Try.prog 47 ([lds n g, AV.fn 49 []]) h (AV.bool (r47b.v n g)) h := by
  have o0 : n ≤ (9223372036854775807 : Nat) := by first | assumption | omega | (simp_all; done)
  exact Ret.of_run1 mix [(AV.bool (r47b.v n g))] Try.func47 rfl [.ret (AV.int IntKind.i64 (r74b.v n g)) ([])] (by simp) (by simp) (kmp (by kernel_rfl) (And.intro (r74b (n) (g) o0 ([])) (And.intro (show (AV.bool (decide (r74b.v n g ≥ 0))) = ((AV.bool (r47b.v n g))) by first | (simp only [r47b.v, cond_true, cond_false]; done) | (try unfold r47b.v; try rfl; done) | rfl) trivial))) h

noncomputable def r46a.v (n : Nat) (g : Nat → LD) : Bool := r47a.v n g

theorem r46a (n : Nat) (g : Nat → LD) (hn : n ≤ 9223372036854775807) (hg : ∀ (i : Nat), (g i).nm.size ≤ 9223372036854775807) (bed : Int) : Ret Try.prog 46 ([AV.fn 48 [], AV.ptr 0 1 1 0 0]) ([AObj.var (lds n g), AObj.var (AV.int IntKind.i64 bed)]) (AV.bool (r46a.v n g)) ([AObj.var (lds n g), AObj.var (AV.int IntKind.i64 bed)]) := by
  have o0 : n ≤ (9223372036854775807 : Nat) := by first | assumption | omega | (exact hg _) | (exact hg _ (by omega)) | (simp_all; done)
  have o1 : ∀ (i : Nat), (g i).nm.size ≤ (9223372036854775807 : Nat) := by first | assumption | omega | (exact hg _) | (exact hg _ (by omega)) | (simp_all; done)
  exact Ret.of_runH mix [(AV.bool (r46a.v n g))] ([AObj.var (lds n g), AObj.var (AV.int IntKind.i64 bed)]) Try.func46 rfl [.ret (AV.bool (r47a.v n g)) ([AObj.var (AV.sl 4 n fun (i : Nat) => AV.agg [AV.str (g i).nm, AV.int IntKind.i64 (g i).lo, AV.int IntKind.i64 (g i).ln, AV.int IntKind.i64 (g i).ms]), AObj.var (AV.int IntKind.i64 bed)])] (by simp) (kmp (by kernel_rfl) (And.intro (r47a (n) (g) o0 o1 ([AObj.var (AV.sl 4 n fun (i : Nat) => AV.agg [AV.str (g i).nm, AV.int IntKind.i64 (g i).lo, AV.int IntKind.i64 (g i).ln, AV.int IntKind.i64 (g i).ms]), AObj.var (AV.int IntKind.i64 bed)])) (And.intro (And.intro (show (AV.bool (r47a.v n g)) = ((AV.bool (r46a.v n g))) by first | (simp only [r46a.v, cond_true, cond_false]; done) | (try unfold r46a.v; try rfl; done) | rfl) trivial) (rfl : ([AObj.var (lds n g), AObj.var (AV.int IntKind.i64 bed)] : AHeap) = [AObj.var (lds n g), AObj.var (AV.int IntKind.i64 bed)]))))

noncomputable def r46b.v (n : Nat) (g : Nat → LD) : Bool := r47b.v n g

theorem r46b (n : Nat) (g : Nat → LD) (hn : n ≤ 9223372036854775807) (bed : Int) : Ret Try.prog 46 ([AV.fn 49 [], AV.ptr 0 1 1 0 0]) ([AObj.var (lds n g), AObj.var (AV.int IntKind.i64 bed)]) (AV.bool (r46b.v n g)) ([AObj.var (lds n g), AObj.var (AV.int IntKind.i64 bed)]) := by
  have o0 : n ≤ (9223372036854775807 : Nat) := by first | assumption | omega | (simp_all; done)
  exact Ret.of_runH mix [(AV.bool (r46b.v n g))] ([AObj.var (lds n g), AObj.var (AV.int IntKind.i64 bed)]) Try.func46 rfl [.ret (AV.bool (r47b.v n g)) ([AObj.var (AV.sl 4 n fun (i : Nat) => AV.agg [AV.str (g i).nm, AV.int IntKind.i64 (g i).lo, AV.int IntKind.i64 (g i).ln, AV.int IntKind.i64 (g i).ms]), AObj.var (AV.int IntKind.i64 bed)])] (by simp) (kmp (by kernel_rfl) (And.intro (r47b (n) (g) o0 ([AObj.var (AV.sl 4 n fun (i : Nat) => AV.agg [AV.str (g i).nm, AV.int IntKind.i64 (g i).lo, AV.int IntKind.i64 (g i).ln, AV.int IntKind.i64 (g i).ms]), AObj.var (AV.int IntKind.i64 bed)])) (And.intro (And.intro (show (AV.bool (r47b.v n g)) = ((AV.bool (r46b.v n g))) by first | (simp only [r46b.v, cond_true, cond_false]; done) | (try unfold r46b.v; try rfl; done) | rfl) trivial) (rfl : ([AObj.var (lds n g), AObj.var (AV.int IntKind.i64 bed)] : AHeap) = [AObj.var (lds n g), AObj.var (AV.int IntKind.i64 bed)]))))

noncomputable def r50.v (bed : Int) (s : LD) : Bool := decide (IntKind.i64.wrap (s.lo + s.ln) > bed)

noncomputable abbrev r50.h0 (n : Nat) (g : Nat → LD) (bed : Int) (ks : List ByteArray) (s : LD) : AHeap := ([AObj.var (lds n g), AObj.var (AV.int IntKind.i64 bed), AObj.map (MCol.sset ks)])

theorem r50 (n : Nat) (g : Nat → LD) (bed : Int) (ks : List ByteArray) (s : LD) : Ret Try.prog 50 ([s.av, AV.ptr 1 1 1 0 0]) (r50.h0 n g bed ks s) (AV.bool (r50.v bed s)) (r50.h0 n g bed ks s) := by
  exact Ret.of_runH mix [(AV.bool (r50.v bed s))] (r50.h0 n g bed ks s) Try.func50 rfl [] (by simp) (kmp (by kernel_rfl) (And.intro (And.intro (show (AV.bool (decide (IntKind.i64.wrap (s.lo + s.ln) > bed))) = ((AV.bool (r50.v bed s))) by first | (simp only [r50.v, cond_true, cond_false]; done) | (try unfold r50.v; try rfl; done) | rfl) trivial) (rfl : ([AObj.var (lds n g), AObj.var (AV.int IntKind.i64 bed), AObj.map (MCol.sset ks)] : AHeap) = [AObj.var (lds n g), AObj.var (AV.int IntKind.i64 bed), AObj.map (MCol.sset ks)])))

inductive L74c.O where
  | e0 (a0 : Int)
  | e1

noncomputable def L74c.T (n : Nat) (g : Nat → LD) (bed : Int) (ks : List ByteArray) (i : Int) : List AV := mkT 19 [(0, lds n g), (1, AV.fn 50 [AV.ptr 1 1 1 0 0]), (7, AV.int IntKind.i64 (↑n : Int)), (8, AV.int IntKind.i64 i)]

noncomputable def L74c.H (n : Nat) (g : Nat → LD) (bed : Int) (ks : List ByteArray) (i : Int) : AHeap := [AObj.var (lds n g), AObj.var (AV.int IntKind.i64 bed), AObj.map (MCol.sset ks)]

def L74c.inv (n : Nat) (g : Nat → LD) (bed : Int) (ks : List ByteArray) (i : Int) : Prop := 0 ≤ i ∧ i ≤ (↑n : Int)

noncomputable def L74c.mu (n : Nat) (g : Nat → LD) (bed : Int) (ks : List ByteArray) (i : Int) : Nat := ((↑n : Int) - i).toNat

noncomputable def L74c.E : L74c.O → Exit
  | .e0 a0 => Exit.ret
  | .e1 => Exit.exit 0

noncomputable def L74c.X (n : Nat) (g : Nat → LD) (bed : Int) (ks : List ByteArray) : L74c.O → List AV
  | .e0 a0 => mkT 19 [(4, (AV.int IntKind.i64 a0))]
  | .e1 => mkT 19 []

noncomputable def L74c.XH (n : Nat) (g : Nat → LD) (bed : Int) (ks : List ByteArray) : L74c.O → AHeap
  | .e0 a0 => ([AObj.var (AV.sl 4 n fun (i : Nat) => AV.agg [AV.str (g i).nm, AV.int IntKind.i64 (g i).lo, AV.int IntKind.i64 (g i).ln, AV.int IntKind.i64 (g i).ms]), AObj.var (AV.int IntKind.i64 bed), AObj.map (MCol.sset ks)])
  | .e1 => ([AObj.var (AV.sl 4 n fun (i : Nat) => AV.agg [AV.str (g i).nm, AV.int IntKind.i64 (g i).lo, AV.int IntKind.i64 (g i).ln, AV.int IntKind.i64 (g i).ms]), AObj.var (AV.int IntKind.i64 bed), AObj.map (MCol.sset ks)])

noncomputable def L74c.N (n : Nat) (g : Nat → LD) (bed : Int) : Nat → Int → L74c.O
  | 0, i => .e0 i
  | k_ + 1, i => (bif decide (i < (↑n : Int)) then (bif r50.v bed (g i.toNat) then (.e0 (i)) else (L74c.N n g bed k_ (IntKind.i64.wrap (i + 1)))) else (.e1))

noncomputable def L74c.run (n : Nat) (g : Nat → LD) (bed : Int) (i : Int) : L74c.O := L74c.N n g bed ((((↑n : Int) - i).toNat) + 1) i

theorem L74c.nx (n : Nat) (g : Nat → LD) (bed : Int) (ks : List ByteArray) {k_ : Nat} {z_ : Int} {h_ : AHeap} (s_ : Int) (h1 : L74c.inv n g bed ks s_) (h2 : L74c.mu n g bed ks s_ < L74c.mu n g bed ks z_) (h3 : L74c.N n g bed k_ s_ = L74c.N n g bed (k_ + 1) z_) (h4 : PopOk (L74c.H n g bed ks z_) h_ (L74c.T n g bed ks s_) (L74c.H n g bed ks s_)) : LNextP (fun (z_ : Int) => L74c.T n g bed ks z_) (fun (z_ : Int) => L74c.H n g bed ks z_) (fun (z_ : Int) => L74c.inv n g bed ks z_) (fun (z_ : Int) => L74c.mu n g bed ks z_) (fun (k_ : Nat) (z_ : Int) => L74c.N n g bed k_ z_) k_ z_ (L74c.T n g bed ks s_) h_ := LNextP.mk (Tm := (fun (z_ : Int) => L74c.T n g bed ks z_)) (Hp := (fun (z_ : Int) => L74c.H n g bed ks z_)) (inv := (fun (z_ : Int) => L74c.inv n g bed ks z_)) (mu := (fun (z_ : Int) => L74c.mu n g bed ks z_)) (l := (fun (k_ : Nat) (z_ : Int) => L74c.N n g bed k_ z_)) s_ h1 h2 h3 h4

theorem L74c.en (n : Nat) (g : Nat → LD) (bed : Int) (ks : List ByteArray) {k_ : Nat} {z_ : Int} {h_ : AHeap} (o_ : L74c.O) (h3 : L74c.N n g bed (k_ + 1) z_ = o_) (h4 : PopOk (L74c.H n g bed ks z_) h_ (L74c.X n g bed ks o_) (L74c.XH n g bed ks o_)) : LEndP (fun (z_ : Int) => L74c.H n g bed ks z_) (fun (k_ : Nat) (z_ : Int) => L74c.N n g bed k_ z_) L74c.E (L74c.X n g bed ks) (L74c.XH n g bed ks) k_ z_ (L74c.E o_) (L74c.X n g bed ks o_) h_ := LEndP.mk (Hp := (fun (z_ : Int) => L74c.H n g bed ks z_)) (l := (fun (k_ : Nat) (z_ : Int) => L74c.N n g bed k_ z_)) (oE := L74c.E) (oT := L74c.X n g bed ks) (oH := L74c.XH n g bed ks) o_ h3 h4

theorem L74c.spec (n : Nat) (g : Nat → LD) (bed : Int) (ks : List ByteArray) (hn : n ≤ 9223372036854775807) (k_ : Nat) (z_ : Int) (hi_ : L74c.inv n g bed ks z_) (hm_ : L74c.mu n g bed ks z_ < k_) : LoopTo Try.prog (loopN Try.f74 0) (L74c.T n g bed ks z_) (L74c.H n g bed ks z_) (L74c.E (L74c.N n g bed k_ z_)) (L74c.X n g bed ks (L74c.N n g bed k_ z_)) (L74c.XH n g bed ks (L74c.N n g bed k_ z_)) := by
  refine LoopTo.fuelP mix (fun (z_ : Int) => L74c.T n g bed ks z_) (fun (z_ : Int) => L74c.H n g bed ks z_) (fun (z_ : Int) => L74c.inv n g bed ks z_) (fun (z_ : Int) => L74c.mu n g bed ks z_) (fun (k_ : Nat) (z_ : Int) => L74c.N n g bed k_ z_) L74c.E (L74c.X n g bed ks) (L74c.XH n g bed ks) (others 19 [0, 1, 7, 8]) (others 19 [4]) (others 19 []) ?_ k_ z_ hi_ hm_
  clear hm_ hi_ z_ k_
  intro k_ z_ hinv hmu
  revert hinv hmu; revert z_; intro i hinv hmu
  have hinv : 0 ≤ i ∧ i ≤ (↑n : Int) := hinv
  have hmu : (((↑n : Int) - i).toNat) < k_ + 1 := hmu
  cases h1 : decide (i < (↑n : Int)) with
  | true =>
    have h1p := of_decide_eq_true h1
    have o0 : (0 : Int) ≤ i := by first | assumption | omega | (simp_all; done)
    have o1 : i < (↑n : Int) := by first | assumption | omega | (simp_all; done)
    cases h2 : r50.v bed (g i.toNat) with
    | true =>
      exact ⟨[.b true, .ret (AV.bool (r50.v bed (g i.toNat))) ([AObj.var (AV.sl 4 n fun (i : Nat) => AV.agg [AV.str (g i).nm, AV.int IntKind.i64 (g i).lo, AV.int IntKind.i64 (g i).ln, AV.int IntKind.i64 (g i).ms]), AObj.var (AV.int IntKind.i64 bed), AObj.map (MCol.sset ks)]), .b true], kmp (by kernel_rfl) (And.intro h1 (And.intro (And.intro o0 o1) (And.intro (r50 (n) (g) (bed) (ks) (g i.toNat)) (And.intro h2 (L74c.en n g bed ks (k_ := k_) (z_ := i) (.e0 (i) : L74c.O) (by first | (simp only [L74c.N, h1, h2, cond_true, cond_false]; done) | (try unfold L74c.N; try simp only [h1, cond_true, cond_false]; try simp only [h2, cond_true, cond_false]; try rfl; done)) PopOk.same)))))⟩
    | false =>
      try have := IntWalk.i64_in (i + 1) (by omega)
      have o2 : (0 : Int) ≤ IntKind.i64.wrap (i + (1 : Int)) := by first | assumption | omega | (simp_all; done)
      have o3 : IntKind.i64.wrap (i + (1 : Int)) ≤ (↑n : Int) := by first | assumption | omega | (simp_all; done)
      have o4 : ((↑n : Int) - IntKind.i64.wrap (i + (1 : Int))).toNat < ((↑n : Int) - i).toNat := by first | assumption | omega | (simp_all; done)
      exact ⟨[.b true, .ret (AV.bool (r50.v bed (g i.toNat))) ([AObj.var (AV.sl 4 n fun (i : Nat) => AV.agg [AV.str (g i).nm, AV.int IntKind.i64 (g i).lo, AV.int IntKind.i64 (g i).ln, AV.int IntKind.i64 (g i).ms]), AObj.var (AV.int IntKind.i64 bed), AObj.map (MCol.sset ks)]), .b false], kmp (by kernel_rfl) (And.intro h1 (And.intro (And.intro o0 o1) (And.intro (r50 (n) (g) (bed) (ks) (g i.toNat)) (And.intro h2 (L74c.nx n g bed ks (k_ := k_) (z_ := i) (IntKind.i64.wrap (i + 1)) (And.intro o2 o3) o4 (by first | (simp only [L74c.N, h1, h2, cond_true, cond_false]; done) | (try unfold L74c.N; try simp only [h1, cond_true, cond_false]; try simp only [h2, cond_true, cond_false]; try rfl; done)) PopOk.same)))))⟩
  | false =>
    have h1p := of_decide_eq_false h1
    exact ⟨[.b false], kmp (by kernel_rfl) (And.intro h1 (L74c.en n g bed ks (k_ := k_) (z_ := i) (.e1 : L74c.O) (by first | (simp only [L74c.N, h1, cond_true, cond_false]; done) | (try unfold L74c.N; try simp only [h1, cond_true, cond_false]; try rfl; done)) PopOk.same))⟩

theorem L74c.e0 (n : Nat) (g : Nat → LD) (bed : Int) (ks : List ByteArray) (hn : n ≤ 9223372036854775807) (i : Int) (hinv : L74c.inv n g bed ks i) (a0 : Int) (hN : L74c.run n g bed i = (.e0 a0 : L74c.O)) : LoopTo Try.prog (loopN Try.f74 0) (L74c.T n g bed ks i) (L74c.H n g bed ks i) (Exit.ret) (L74c.X n g bed ks (.e0 a0 : L74c.O)) (L74c.XH n g bed ks (.e0 a0 : L74c.O)) := by
  have h_ := L74c.spec n g bed ks hn ((((↑n : Int) - i).toNat) + 1) i hinv (Nat.lt_succ_self _)
  unfold L74c.run at hN
  simp only [hN] at h_
  exact h_

theorem L74c.e1 (n : Nat) (g : Nat → LD) (bed : Int) (ks : List ByteArray) (hn : n ≤ 9223372036854775807) (i : Int) (hinv : L74c.inv n g bed ks i) (hN : L74c.run n g bed i = (.e1 : L74c.O)) : LoopTo Try.prog (loopN Try.f74 0) (L74c.T n g bed ks i) (L74c.H n g bed ks i) (Exit.exit 0) (L74c.X n g bed ks (.e1 : L74c.O)) (L74c.XH n g bed ks (.e1 : L74c.O)) := by
  have h_ := L74c.spec n g bed ks hn ((((↑n : Int) - i).toNat) + 1) i hinv (Nat.lt_succ_self _)
  unfold L74c.run at hN
  simp only [hN] at h_
  exact h_

noncomputable def r74c.v (n : Nat) (g : Nat → LD) (bed : Int) : Int := (match L74c.run n g bed 0 with | .e0 h1d0 => h1d0 | .e1 => -1 )

noncomputable abbrev r74c.h0 (n : Nat) (g : Nat → LD) (bed : Int) (ks : List ByteArray) : AHeap := ([AObj.var (lds n g), AObj.var (AV.int IntKind.i64 bed), AObj.map (MCol.sset ks)])

theorem r74c (n : Nat) (g : Nat → LD) (bed : Int) (ks : List ByteArray) (hn : n ≤ 9223372036854775807) : Ret Try.prog 74 ([lds n g, AV.fn 50 [AV.ptr 1 1 1 0 0]]) (r74c.h0 n g bed ks) (AV.int IntKind.i64 (r74c.v n g bed)) (r74c.h0 n g bed ks) := by
  have o0 : n ≤ (9223372036854775807 : Nat) := by first | assumption | omega | (simp_all; done)
  have o1 : (0 : Int) ≤ (↑n : Int) := by first | assumption | omega | (simp_all; done)
  cases h1 : L74c.run n g bed 0 with
  | e0 h1d0 =>
    exact Ret.of_runH mix [(AV.int IntKind.i64 (r74c.v n g bed))] (r74c.h0 n g bed ks) Try.func74 rfl [.loop (others 19 [0, 1, 7, 8]) (Exit.ret) (L74c.X n g bed ks (L74c.O.e0 h1d0)) (L74c.XH n g bed ks (L74c.O.e0 h1d0))] (by simp) (kmp (by kernel_rfl) (And.intro (L74c.e0 (n) (g) (bed) (ks) o0 (0) (And.intro (show (0 : Int) ≤ (0 : Int) by first | decide | exact Int.NonNeg.mk _) o1) h1d0 h1) (And.intro (And.intro (show (AV.int IntKind.i64 h1d0) = ((AV.int IntKind.i64 (r74c.v n g bed))) by first | (simp only [r74c.v, h1, cond_true, cond_false]; done) | (try unfold r74c.v; try simp only [h1, cond_true, cond_false]; try rfl; done) | rfl) trivial) (rfl : ([AObj.var (lds n g), AObj.var (AV.int IntKind.i64 bed), AObj.map (MCol.sset ks)] : AHeap) = [AObj.var (lds n g), AObj.var (AV.int IntKind.i64 bed), AObj.map (MCol.sset ks)]))))
  | e1 =>
    exact Ret.of_runH mix [(AV.int IntKind.i64 (r74c.v n g bed))] (r74c.h0 n g bed ks) Try.func74 rfl [.loop (others 19 [0, 1, 7, 8]) (Exit.exit 0) (L74c.X n g bed ks L74c.O.e1) (L74c.XH n g bed ks L74c.O.e1)] (by simp) (kmp (by kernel_rfl) (And.intro (L74c.e1 (n) (g) (bed) (ks) o0 (0) (And.intro (show (0 : Int) ≤ (0 : Int) by first | decide | exact Int.NonNeg.mk _) o1) h1) (And.intro (And.intro (show (AV.int IntKind.i64 (-1)) = ((AV.int IntKind.i64 (r74c.v n g bed))) by first | (simp only [r74c.v, h1, cond_true, cond_false]; done) | (try unfold r74c.v; try simp only [h1, cond_true, cond_false]; try rfl; done) | rfl) trivial) (rfl : ([AObj.var (lds n g), AObj.var (AV.int IntKind.i64 bed), AObj.map (MCol.sset ks)] : AHeap) = [AObj.var (lds n g), AObj.var (AV.int IntKind.i64 bed), AObj.map (MCol.sset ks)]))))

noncomputable def r47c.v (n : Nat) (g : Nat → LD) (bed : Int) : Bool := decide (r74c.v n g bed ≥ 0)

noncomputable abbrev r47c.h0 (n : Nat) (g : Nat → LD) (bed : Int) (ks : List ByteArray) : AHeap := ([AObj.var (lds n g), AObj.var (AV.int IntKind.i64 bed), AObj.map (MCol.sset ks)])

theorem r47c (n : Nat) (g : Nat → LD) (bed : Int) (ks : List ByteArray) (hn : n ≤ 9223372036854775807) : Ret Try.prog 47 ([lds n g, AV.fn 50 [AV.ptr 1 1 1 0 0]]) (r47c.h0 n g bed ks) (AV.bool (r47c.v n g bed)) (r47c.h0 n g bed ks) := by
  have o0 : n ≤ (9223372036854775807 : Nat) := by first | assumption | omega | (simp_all; done)
  exact Ret.of_runH mix [(AV.bool (r47c.v n g bed))] (r47c.h0 n g bed ks) Try.func47 rfl [.ret (AV.int IntKind.i64 (r74c.v n g bed)) ([AObj.var (AV.sl 4 n fun (i : Nat) => AV.agg [AV.str (g i).nm, AV.int IntKind.i64 (g i).lo, AV.int IntKind.i64 (g i).ln, AV.int IntKind.i64 (g i).ms]), AObj.var (AV.int IntKind.i64 bed), AObj.map (MCol.sset ks)])] (by simp) (kmp (by kernel_rfl) (And.intro (r74c (n) (g) (bed) (ks) o0) (And.intro (And.intro (show (AV.bool (decide (r74c.v n g bed ≥ 0))) = ((AV.bool (r47c.v n g bed))) by first | (simp only [r47c.v, cond_true, cond_false]; done) | (try unfold r47c.v; try rfl; done) | rfl) trivial) (rfl : ([AObj.var (lds n g), AObj.var (AV.int IntKind.i64 bed), AObj.map (MCol.sset ks)] : AHeap) = [AObj.var (lds n g), AObj.var (AV.int IntKind.i64 bed), AObj.map (MCol.sset ks)]))))

noncomputable def r46c.v (n : Nat) (g : Nat → LD) (bed : Int) : Bool := r47c.v n g bed

noncomputable abbrev r46c.h0 (n : Nat) (g : Nat → LD) (bed : Int) (ks : List ByteArray) : AHeap := ([AObj.var (lds n g), AObj.var (AV.int IntKind.i64 bed), AObj.map (MCol.sset ks)])

theorem r46c (n : Nat) (g : Nat → LD) (bed : Int) (ks : List ByteArray) (hn : n ≤ 9223372036854775807) : Ret Try.prog 46 ([AV.fn 50 [AV.ptr 1 1 1 0 0], AV.ptr 0 1 1 0 0]) (r46c.h0 n g bed ks) (AV.bool (r46c.v n g bed)) (r46c.h0 n g bed ks) := by
  have o0 : n ≤ (9223372036854775807 : Nat) := by first | assumption | omega | (simp_all; done)
  exact Ret.of_runH mix [(AV.bool (r46c.v n g bed))] (r46c.h0 n g bed ks) Try.func46 rfl [.ret (AV.bool (r47c.v n g bed)) ([AObj.var (AV.sl 4 n fun (i : Nat) => AV.agg [AV.str (g i).nm, AV.int IntKind.i64 (g i).lo, AV.int IntKind.i64 (g i).ln, AV.int IntKind.i64 (g i).ms]), AObj.var (AV.int IntKind.i64 bed), AObj.map (MCol.sset ks)])] (by simp) (kmp (by kernel_rfl) (And.intro (r47c (n) (g) (bed) (ks) o0) (And.intro (And.intro (show (AV.bool (r47c.v n g bed)) = ((AV.bool (r46c.v n g bed))) by first | (simp only [r46c.v, cond_true, cond_false]; done) | (try unfold r46c.v; try rfl; done) | rfl) trivial) (rfl : ([AObj.var (lds n g), AObj.var (AV.int IntKind.i64 bed), AObj.map (MCol.sset ks)] : AHeap) = [AObj.var (lds n g), AObj.var (AV.int IntKind.i64 bed), AObj.map (MCol.sset ks)]))))

inductive L15a.O where
  | e0
  | e1

noncomputable def L15a.T (n : Nat) (g : Nat → LD) (e : Int) (a5 : Int) : List AV := mkT 151 [(0, AV.sl 4 n fun (i : Nat) => AV.agg [AV.str (g i).nm, AV.int IntKind.i64 (g i).lo, AV.int IntKind.i64 (g i).ln, AV.int IntKind.i64 (g i).ms]), (1, AV.int IntKind.i64 e), (5, AV.int IntKind.i64 a5)]

noncomputable def L15a.H (n : Nat) (g : Nat → LD) (e : Int) (a5 : Int) : AHeap := []

def L15a.inv (n : Nat) (g : Nat → LD) (e : Int) (a5 : Int) : Prop := 0 ≤ a5 ∧ (a5 ≤ (↑n : Int) ∨ a5 ≤ 0)

noncomputable def L15a.mu (n : Nat) (g : Nat → LD) (e : Int) (a5 : Int) : Nat := ((↑n : Int) - a5).toNat

noncomputable def L15a.E : L15a.O → Exit
  | .e0 => Exit.ret
  | .e1 => Exit.exit 0

noncomputable def L15a.X (n : Nat) (g : Nat → LD) (e : Int) : L15a.O → List AV
  | .e0 => mkT 151 [(4, (AV.int IntKind.i64 4))]
  | .e1 => mkT 151 [(0, (AV.sl 4 n fun (i : Nat) => AV.agg [AV.str (g i).nm, AV.int IntKind.i64 (g i).lo, AV.int IntKind.i64 (g i).ln, AV.int IntKind.i64 (g i).ms])), (1, (AV.int IntKind.i64 e))]

noncomputable def L15a.XH (n : Nat) (g : Nat → LD) (e : Int) : L15a.O → AHeap
  | .e0 => ([])
  | .e1 => ([])

noncomputable def L15a.N (n : Nat) (g : Nat → LD) : Nat → Int → L15a.O
  | 0, _ => .e0
  | k_ + 1, a5 => (bif decide (a5 < (↑n : Int)) then (bif r36.v (g a5.toNat).nm then (L15a.N n g k_ (IntKind.i64.wrap (a5 + 1))) else (.e0)) else (.e1))

noncomputable def L15a.run (n : Nat) (g : Nat → LD) (a5 : Int) : L15a.O := L15a.N n g ((((↑n : Int) - a5).toNat) + 1) a5

theorem L15a.nx (n : Nat) (g : Nat → LD) (e : Int) {k_ : Nat} {z_ : Int} {h_ : AHeap} (s_ : Int) (h1 : L15a.inv n g e s_) (h2 : L15a.mu n g e s_ < L15a.mu n g e z_) (h3 : L15a.N n g k_ s_ = L15a.N n g (k_ + 1) z_) (h4 : PopOk (L15a.H n g e z_) h_ (L15a.T n g e s_) (L15a.H n g e s_)) : LNextP (fun (z_ : Int) => L15a.T n g e z_) (fun (z_ : Int) => L15a.H n g e z_) (fun (z_ : Int) => L15a.inv n g e z_) (fun (z_ : Int) => L15a.mu n g e z_) (fun (k_ : Nat) (z_ : Int) => L15a.N n g k_ z_) k_ z_ (L15a.T n g e s_) h_ := LNextP.mk (Tm := (fun (z_ : Int) => L15a.T n g e z_)) (Hp := (fun (z_ : Int) => L15a.H n g e z_)) (inv := (fun (z_ : Int) => L15a.inv n g e z_)) (mu := (fun (z_ : Int) => L15a.mu n g e z_)) (l := (fun (k_ : Nat) (z_ : Int) => L15a.N n g k_ z_)) s_ h1 h2 h3 h4

theorem L15a.en (n : Nat) (g : Nat → LD) (e : Int) {k_ : Nat} {z_ : Int} {h_ : AHeap} (o_ : L15a.O) (h3 : L15a.N n g (k_ + 1) z_ = o_) (h4 : PopOk (L15a.H n g e z_) h_ (L15a.X n g e o_) (L15a.XH n g e o_)) : LEndP (fun (z_ : Int) => L15a.H n g e z_) (fun (k_ : Nat) (z_ : Int) => L15a.N n g k_ z_) L15a.E (L15a.X n g e) (L15a.XH n g e) k_ z_ (L15a.E o_) (L15a.X n g e o_) h_ := LEndP.mk (Hp := (fun (z_ : Int) => L15a.H n g e z_)) (l := (fun (k_ : Nat) (z_ : Int) => L15a.N n g k_ z_)) (oE := L15a.E) (oT := L15a.X n g e) (oH := L15a.XH n g e) o_ h3 h4

theorem L15a.spec (n : Nat) (g : Nat → LD) (hn : n ≤ 9223372036854775807) (hg : ∀ (i : Nat), (g i).nm.size ≤ 9223372036854775807) (e : Int) (k0_1 : decide ((↑n : Int) > 64) = false) (p0_1 : ¬(↑n : Int) > 64) (k_ : Nat) (z_ : Int) (hi_ : L15a.inv n g e z_) (hm_ : L15a.mu n g e z_ < k_) : LoopTo Try.prog (loopN Try.f15 0) (L15a.T n g e z_) (L15a.H n g e z_) (L15a.E (L15a.N n g k_ z_)) (L15a.X n g e (L15a.N n g k_ z_)) (L15a.XH n g e (L15a.N n g k_ z_)) := by
  refine LoopTo.fuelP mix (fun (z_ : Int) => L15a.T n g e z_) (fun (z_ : Int) => L15a.H n g e z_) (fun (z_ : Int) => L15a.inv n g e z_) (fun (z_ : Int) => L15a.mu n g e z_) (fun (k_ : Nat) (z_ : Int) => L15a.N n g k_ z_) L15a.E (L15a.X n g e) (L15a.XH n g e) (others 151 [0, 1, 5]) (others 151 [4]) (others 151 [0, 1]) ?_ k_ z_ hi_ hm_
  clear hm_ hi_ z_ k_
  intro k_ z_ hinv hmu
  revert hinv hmu; revert z_; intro a5 hinv hmu
  have hinv : 0 ≤ a5 ∧ (a5 ≤ (↑n : Int) ∨ a5 ≤ 0) := hinv
  have hmu : (((↑n : Int) - a5).toNat) < k_ + 1 := hmu
  cases h1 : decide (a5 < (↑n : Int)) with
  | true =>
    have h1p := of_decide_eq_true h1
    have o0 : (0 : Int) ≤ a5 := by first | assumption | omega | (exact hg _) | (exact hg _ (by omega)) | (simp_all; done)
    have o1 : a5 < (↑n : Int) := by first | assumption | omega | (exact hg _) | (exact hg _ (by omega)) | (simp_all; done)
    have o2 : (g a5.toNat).nm.size ≤ (9223372036854775807 : Nat) := by first | assumption | omega | (exact hg _) | (exact hg _ (by omega)) | (simp_all; done)
    cases h2 : r36.v (g a5.toNat).nm with
    | true =>
      try have := IntWalk.i64_in (a5 + 1) (by omega)
      have o3 : (0 : Int) ≤ IntKind.i64.wrap (a5 + (1 : Int)) := by first | assumption | omega | (exact hg _) | (exact hg _ (by omega)) | (simp_all; done)
      have o4 : IntKind.i64.wrap (a5 + (1 : Int)) ≤ (↑n : Int) ∨ IntKind.i64.wrap (a5 + (1 : Int)) ≤ (0 : Int) := by first | assumption | omega | (exact hg _) | (exact hg _ (by omega)) | (simp_all; done)
      have o5 : ((↑n : Int) - IntKind.i64.wrap (a5 + (1 : Int))).toNat < ((↑n : Int) - a5).toNat := by first | assumption | omega | (exact hg _) | (exact hg _ (by omega)) | (simp_all; done)
      exact ⟨[.b true, .ret (AV.bool (r36.v (g a5.toNat).nm)) ([]), .b false], kmp (by kernel_rfl) (And.intro h1 (And.intro (And.intro o0 o1) (And.intro (r36 ((g a5.toNat).nm) o2 ([])) (And.intro (show (bnot (r36.v (g a5.toNat).nm)) = false by rw [h2]; try rfl) (L15a.nx n g e (k_ := k_) (z_ := a5) (IntKind.i64.wrap (a5 + 1)) (And.intro o3 o4) o5 (by first | (simp only [L15a.N, h1, h2, cond_true, cond_false]; done) | (try unfold L15a.N; try simp only [h1, cond_true, cond_false]; try simp only [h2, cond_true, cond_false]; try rfl; done)) PopOk.same)))))⟩
    | false =>
      exact ⟨[.b true, .ret (AV.bool (r36.v (g a5.toNat).nm)) ([]), .b true], kmp (by kernel_rfl) (And.intro h1 (And.intro (And.intro o0 o1) (And.intro (r36 ((g a5.toNat).nm) o2 ([])) (And.intro (show (bnot (r36.v (g a5.toNat).nm)) = true by rw [h2]; try rfl) (L15a.en n g e (k_ := k_) (z_ := a5) (.e0 : L15a.O) (by first | (simp only [L15a.N, h1, h2, cond_true, cond_false]; done) | (try unfold L15a.N; try simp only [h1, cond_true, cond_false]; try simp only [h2, cond_true, cond_false]; try rfl; done)) PopOk.same)))))⟩
  | false =>
    have h1p := of_decide_eq_false h1
    exact ⟨[.b false], kmp (by kernel_rfl) (And.intro h1 (L15a.en n g e (k_ := k_) (z_ := a5) (.e1 : L15a.O) (by first | (simp only [L15a.N, h1, cond_true, cond_false]; done) | (try unfold L15a.N; try simp only [h1, cond_true, cond_false]; try rfl; done)) PopOk.same))⟩

theorem L15a.e0 (n : Nat) (g : Nat → LD) (hn : n ≤ 9223372036854775807) (hg : ∀ (i : Nat), (g i).nm.size ≤ 9223372036854775807) (e : Int) (k0_1 : decide ((↑n : Int) > 64) = false) (p0_1 : ¬(↑n : Int) > 64) (a5 : Int) (hinv : L15a.inv n g e a5) (hN : L15a.run n g a5 = (.e0 : L15a.O)) : LoopTo Try.prog (loopN Try.f15 0) (L15a.T n g e a5) (L15a.H n g e a5) (Exit.ret) (L15a.X n g e (.e0 : L15a.O)) (L15a.XH n g e (.e0 : L15a.O)) := by
  have h_ := L15a.spec n g hn hg e k0_1 p0_1 ((((↑n : Int) - a5).toNat) + 1) a5 hinv (Nat.lt_succ_self _)
  unfold L15a.run at hN
  simp only [hN] at h_
  exact h_

theorem L15a.e1 (n : Nat) (g : Nat → LD) (hn : n ≤ 9223372036854775807) (hg : ∀ (i : Nat), (g i).nm.size ≤ 9223372036854775807) (e : Int) (k0_1 : decide ((↑n : Int) > 64) = false) (p0_1 : ¬(↑n : Int) > 64) (a5 : Int) (hinv : L15a.inv n g e a5) (hN : L15a.run n g a5 = (.e1 : L15a.O)) : LoopTo Try.prog (loopN Try.f15 0) (L15a.T n g e a5) (L15a.H n g e a5) (Exit.exit 0) (L15a.X n g e (.e1 : L15a.O)) (L15a.XH n g e (.e1 : L15a.O)) := by
  have h_ := L15a.spec n g hn hg e k0_1 p0_1 ((((↑n : Int) - a5).toNat) + 1) a5 hinv (Nat.lt_succ_self _)
  unfold L15a.run at hN
  simp only [hN] at h_
  exact h_

inductive L15b.O where
  | e0
  | e1

noncomputable def L15b.T (n : Nat) (g : Nat → LD) (e : Int) (b6 : Int) : List AV := mkT 151 [(0, AV.sl 4 n fun (i : Nat) => AV.agg [AV.str (g i).nm, AV.int IntKind.i64 (g i).lo, AV.int IntKind.i64 (g i).ln, AV.int IntKind.i64 (g i).ms]), (1, AV.int IntKind.i64 e), (6, AV.int IntKind.i64 b6)]

noncomputable def L15b.H (n : Nat) (g : Nat → LD) (e : Int) (b6 : Int) : AHeap := []

def L15b.inv (n : Nat) (g : Nat → LD) (e : Int) (b6 : Int) : Prop := 0 ≤ b6 ∧ (b6 ≤ (↑n : Int) ∨ b6 ≤ 0)

noncomputable def L15b.mu (n : Nat) (g : Nat → LD) (e : Int) (b6 : Int) : Nat := ((↑n : Int) - b6).toNat

noncomputable def L15b.E : L15b.O → Exit
  | .e0 => Exit.ret
  | .e1 => Exit.exit 2

noncomputable def L15b.X (n : Nat) (g : Nat → LD) (e : Int) : L15b.O → List AV
  | .e0 => mkT 151 [(4, (AV.int IntKind.i64 6))]
  | .e1 => mkT 151 [(0, (AV.sl 4 n fun (i : Nat) => AV.agg [AV.str (g i).nm, AV.int IntKind.i64 (g i).lo, AV.int IntKind.i64 (g i).ln, AV.int IntKind.i64 (g i).ms])), (1, (AV.int IntKind.i64 e))]

noncomputable def L15b.XH (n : Nat) (g : Nat → LD) (e : Int) : L15b.O → AHeap
  | .e0 => ([])
  | .e1 => ([])

noncomputable def L15b.N (n : Nat) (g : Nat → LD) : Nat → Int → L15b.O
  | 0, _ => .e0
  | k_ + 1, b6 => (bif decide (b6 < (↑n : Int)) then (bif r37.v (g b6.toNat).lo 0 50000 then (bif r37.v (g b6.toNat).ln 1 50000 then (bif r37.v (g b6.toNat).ms 1 100000000 then (L15b.N n g k_ (IntKind.i64.wrap (b6 + 1))) else (.e0)) else (.e0)) else (.e0)) else (.e1))

noncomputable def L15b.run (n : Nat) (g : Nat → LD) (b6 : Int) : L15b.O := L15b.N n g ((((↑n : Int) - b6).toNat) + 1) b6

theorem L15b.nx (n : Nat) (g : Nat → LD) (e : Int) {k_ : Nat} {z_ : Int} {h_ : AHeap} (s_ : Int) (h1 : L15b.inv n g e s_) (h2 : L15b.mu n g e s_ < L15b.mu n g e z_) (h3 : L15b.N n g k_ s_ = L15b.N n g (k_ + 1) z_) (h4 : PopOk (L15b.H n g e z_) h_ (L15b.T n g e s_) (L15b.H n g e s_)) : LNextP (fun (z_ : Int) => L15b.T n g e z_) (fun (z_ : Int) => L15b.H n g e z_) (fun (z_ : Int) => L15b.inv n g e z_) (fun (z_ : Int) => L15b.mu n g e z_) (fun (k_ : Nat) (z_ : Int) => L15b.N n g k_ z_) k_ z_ (L15b.T n g e s_) h_ := LNextP.mk (Tm := (fun (z_ : Int) => L15b.T n g e z_)) (Hp := (fun (z_ : Int) => L15b.H n g e z_)) (inv := (fun (z_ : Int) => L15b.inv n g e z_)) (mu := (fun (z_ : Int) => L15b.mu n g e z_)) (l := (fun (k_ : Nat) (z_ : Int) => L15b.N n g k_ z_)) s_ h1 h2 h3 h4

theorem L15b.en (n : Nat) (g : Nat → LD) (e : Int) {k_ : Nat} {z_ : Int} {h_ : AHeap} (o_ : L15b.O) (h3 : L15b.N n g (k_ + 1) z_ = o_) (h4 : PopOk (L15b.H n g e z_) h_ (L15b.X n g e o_) (L15b.XH n g e o_)) : LEndP (fun (z_ : Int) => L15b.H n g e z_) (fun (k_ : Nat) (z_ : Int) => L15b.N n g k_ z_) L15b.E (L15b.X n g e) (L15b.XH n g e) k_ z_ (L15b.E o_) (L15b.X n g e o_) h_ := LEndP.mk (Hp := (fun (z_ : Int) => L15b.H n g e z_)) (l := (fun (k_ : Nat) (z_ : Int) => L15b.N n g k_ z_)) (oE := L15b.E) (oT := L15b.X n g e) (oH := L15b.XH n g e) o_ h3 h4

theorem L15b.spec (n : Nat) (g : Nat → LD) (hn : n ≤ 9223372036854775807) (hg : ∀ (i : Nat), (g i).nm.size ≤ 9223372036854775807) (e : Int) (k1_1 : decide ((↑n : Int) > 64) = false) (p1_1 : ¬(↑n : Int) > 64) (k_ : Nat) (z_ : Int) (hi_ : L15b.inv n g e z_) (hm_ : L15b.mu n g e z_ < k_) : LoopTo Try.prog (loopN Try.f15 1) (L15b.T n g e z_) (L15b.H n g e z_) (L15b.E (L15b.N n g k_ z_)) (L15b.X n g e (L15b.N n g k_ z_)) (L15b.XH n g e (L15b.N n g k_ z_)) := by
  refine LoopTo.fuelP mix (fun (z_ : Int) => L15b.T n g e z_) (fun (z_ : Int) => L15b.H n g e z_) (fun (z_ : Int) => L15b.inv n g e z_) (fun (z_ : Int) => L15b.mu n g e z_) (fun (k_ : Nat) (z_ : Int) => L15b.N n g k_ z_) L15b.E (L15b.X n g e) (L15b.XH n g e) (others 151 [0, 1, 6]) (others 151 [4]) (others 151 [0, 1]) ?_ k_ z_ hi_ hm_
  clear hm_ hi_ z_ k_
  intro k_ z_ hinv hmu
  revert hinv hmu; revert z_; intro b6 hinv hmu
  have hinv : 0 ≤ b6 ∧ (b6 ≤ (↑n : Int) ∨ b6 ≤ 0) := hinv
  have hmu : (((↑n : Int) - b6).toNat) < k_ + 1 := hmu
  cases h1 : decide (b6 < (↑n : Int)) with
  | true =>
    have h1p := of_decide_eq_true h1
    have o0 : (0 : Int) ≤ b6 := by first | assumption | omega | (exact hg _) | (exact hg _ (by omega)) | (simp_all; done)
    have o1 : b6 < (↑n : Int) := by first | assumption | omega | (exact hg _) | (exact hg _ (by omega)) | (simp_all; done)
    cases h2 : r37.v (g b6.toNat).lo 0 50000 with
    | true =>
      cases h3 : r37.v (g b6.toNat).ln 1 50000 with
      | true =>
        cases h4 : r37.v (g b6.toNat).ms 1 100000000 with
        | true =>
          try have := IntWalk.i64_in (b6 + 1) (by omega)
          have o2 : (0 : Int) ≤ IntKind.i64.wrap (b6 + (1 : Int)) := by first | assumption | omega | (exact hg _) | (exact hg _ (by omega)) | (simp_all; done)
          have o3 : IntKind.i64.wrap (b6 + (1 : Int)) ≤ (↑n : Int) ∨ IntKind.i64.wrap (b6 + (1 : Int)) ≤ (0 : Int) := by first | assumption | omega | (exact hg _) | (exact hg _ (by omega)) | (simp_all; done)
          have o4 : ((↑n : Int) - IntKind.i64.wrap (b6 + (1 : Int))).toNat < ((↑n : Int) - b6).toNat := by first | assumption | omega | (exact hg _) | (exact hg _ (by omega)) | (simp_all; done)
          exact ⟨[.b true, .ret (AV.bool (r37.v (g b6.toNat).lo 0 50000)) ([]), .b false, .b false, .b false, .b false, .b false, .b false, .ret (AV.bool (r37.v (g b6.toNat).ln 1 50000)) ([]), .b false, .b false, .b false, .b false, .b false, .b false, .b false, .b false, .ret (AV.bool (r37.v (g b6.toNat).ms 1 100000000)) ([]), .b false, .b false, .b false], kmp (by kernel_rfl) (And.intro h1 (And.intro (And.intro o0 o1) (And.intro (r37 ((g b6.toNat).lo) (0) (50000) ([])) (And.intro (show (bnot (r37.v (g b6.toNat).lo 0 50000)) = false by rw [h2]; try rfl) (And.intro (show (bnot (r37.v (g b6.toNat).lo 0 50000)) = false by rw [h2]; try rfl) (And.intro (show (bnot (r37.v (g b6.toNat).lo 0 50000)) = false by rw [h2]; try rfl) (And.intro (And.intro o0 o1) (And.intro (show (bnot (r37.v (g b6.toNat).lo 0 50000)) = false by rw [h2]; try rfl) (And.intro (show (bnot (r37.v (g b6.toNat).lo 0 50000)) = false by rw [h2]; try rfl) (And.intro (show (bnot (r37.v (g b6.toNat).lo 0 50000)) = false by rw [h2]; try rfl) (And.intro (r37 ((g b6.toNat).ln) (1) (50000) ([])) (And.intro (show (bnot (r37.v (g b6.toNat).lo 0 50000)) = false by rw [h2]; try rfl) (And.intro (show (bnot (r37.v (g b6.toNat).lo 0 50000)) = false by rw [h2]; try rfl) (And.intro (show (bnot (r37.v (g b6.toNat).ln 1 50000)) = false by rw [h3]; try rfl) (And.intro (show (bnot (r37.v (g b6.toNat).ln 1 50000)) = false by rw [h3]; try rfl) (And.intro (show (bnot (r37.v (g b6.toNat).ln 1 50000)) = false by rw [h3]; try rfl) (And.intro (And.intro o0 o1) (And.intro (show (bnot (r37.v (g b6.toNat).ln 1 50000)) = false by rw [h3]; try rfl) (And.intro (show (bnot (r37.v (g b6.toNat).ln 1 50000)) = false by rw [h3]; try rfl) (And.intro (show (bnot (r37.v (g b6.toNat).ln 1 50000)) = false by rw [h3]; try rfl) (And.intro (r37 ((g b6.toNat).ms) (1) (100000000) ([])) (And.intro (show (bnot (r37.v (g b6.toNat).ln 1 50000)) = false by rw [h3]; try rfl) (And.intro (show (bnot (r37.v (g b6.toNat).ln 1 50000)) = false by rw [h3]; try rfl) (And.intro (show (bnot (r37.v (g b6.toNat).ms 1 100000000)) = false by rw [h4]; try rfl) (L15b.nx n g e (k_ := k_) (z_ := b6) (IntKind.i64.wrap (b6 + 1)) (And.intro o2 o3) o4 (by first | (simp only [L15b.N, h1, h2, h3, h4, cond_true, cond_false]; done) | (try unfold L15b.N; try simp only [h1, cond_true, cond_false]; try simp only [h2, cond_true, cond_false]; try simp only [h3, cond_true, cond_false]; try simp only [h4, cond_true, cond_false]; try rfl; done)) PopOk.same)))))))))))))))))))))))))⟩
        | false =>
          exact ⟨[.b true, .ret (AV.bool (r37.v (g b6.toNat).lo 0 50000)) ([]), .b false, .b false, .b false, .b false, .b false, .b false, .ret (AV.bool (r37.v (g b6.toNat).ln 1 50000)) ([]), .b false, .b false, .b false, .b false, .b false, .b false, .b false, .b false, .ret (AV.bool (r37.v (g b6.toNat).ms 1 100000000)) ([]), .b false, .b false, .b true], kmp (by kernel_rfl) (And.intro h1 (And.intro (And.intro o0 o1) (And.intro (r37 ((g b6.toNat).lo) (0) (50000) ([])) (And.intro (show (bnot (r37.v (g b6.toNat).lo 0 50000)) = false by rw [h2]; try rfl) (And.intro (show (bnot (r37.v (g b6.toNat).lo 0 50000)) = false by rw [h2]; try rfl) (And.intro (show (bnot (r37.v (g b6.toNat).lo 0 50000)) = false by rw [h2]; try rfl) (And.intro (And.intro o0 o1) (And.intro (show (bnot (r37.v (g b6.toNat).lo 0 50000)) = false by rw [h2]; try rfl) (And.intro (show (bnot (r37.v (g b6.toNat).lo 0 50000)) = false by rw [h2]; try rfl) (And.intro (show (bnot (r37.v (g b6.toNat).lo 0 50000)) = false by rw [h2]; try rfl) (And.intro (r37 ((g b6.toNat).ln) (1) (50000) ([])) (And.intro (show (bnot (r37.v (g b6.toNat).lo 0 50000)) = false by rw [h2]; try rfl) (And.intro (show (bnot (r37.v (g b6.toNat).lo 0 50000)) = false by rw [h2]; try rfl) (And.intro (show (bnot (r37.v (g b6.toNat).ln 1 50000)) = false by rw [h3]; try rfl) (And.intro (show (bnot (r37.v (g b6.toNat).ln 1 50000)) = false by rw [h3]; try rfl) (And.intro (show (bnot (r37.v (g b6.toNat).ln 1 50000)) = false by rw [h3]; try rfl) (And.intro (And.intro o0 o1) (And.intro (show (bnot (r37.v (g b6.toNat).ln 1 50000)) = false by rw [h3]; try rfl) (And.intro (show (bnot (r37.v (g b6.toNat).ln 1 50000)) = false by rw [h3]; try rfl) (And.intro (show (bnot (r37.v (g b6.toNat).ln 1 50000)) = false by rw [h3]; try rfl) (And.intro (r37 ((g b6.toNat).ms) (1) (100000000) ([])) (And.intro (show (bnot (r37.v (g b6.toNat).ln 1 50000)) = false by rw [h3]; try rfl) (And.intro (show (bnot (r37.v (g b6.toNat).ln 1 50000)) = false by rw [h3]; try rfl) (And.intro (show (bnot (r37.v (g b6.toNat).ms 1 100000000)) = true by rw [h4]; try rfl) (L15b.en n g e (k_ := k_) (z_ := b6) (.e0 : L15b.O) (by first | (simp only [L15b.N, h1, h2, h3, h4, cond_true, cond_false]; done) | (try unfold L15b.N; try simp only [h1, cond_true, cond_false]; try simp only [h2, cond_true, cond_false]; try simp only [h3, cond_true, cond_false]; try simp only [h4, cond_true, cond_false]; try rfl; done)) PopOk.same)))))))))))))))))))))))))⟩
      | false =>
        exact ⟨[.b true, .ret (AV.bool (r37.v (g b6.toNat).lo 0 50000)) ([]), .b false, .b false, .b false, .b false, .b false, .b false, .ret (AV.bool (r37.v (g b6.toNat).ln 1 50000)) ([]), .b false, .b false, .b true, .b true, .b true, .b true, .b true, .b true, .b true, .b true, .b true], kmp (by kernel_rfl) (And.intro h1 (And.intro (And.intro o0 o1) (And.intro (r37 ((g b6.toNat).lo) (0) (50000) ([])) (And.intro (show (bnot (r37.v (g b6.toNat).lo 0 50000)) = false by rw [h2]; try rfl) (And.intro (show (bnot (r37.v (g b6.toNat).lo 0 50000)) = false by rw [h2]; try rfl) (And.intro (show (bnot (r37.v (g b6.toNat).lo 0 50000)) = false by rw [h2]; try rfl) (And.intro (And.intro o0 o1) (And.intro (show (bnot (r37.v (g b6.toNat).lo 0 50000)) = false by rw [h2]; try rfl) (And.intro (show (bnot (r37.v (g b6.toNat).lo 0 50000)) = false by rw [h2]; try rfl) (And.intro (show (bnot (r37.v (g b6.toNat).lo 0 50000)) = false by rw [h2]; try rfl) (And.intro (r37 ((g b6.toNat).ln) (1) (50000) ([])) (And.intro (show (bnot (r37.v (g b6.toNat).lo 0 50000)) = false by rw [h2]; try rfl) (And.intro (show (bnot (r37.v (g b6.toNat).lo 0 50000)) = false by rw [h2]; try rfl) (And.intro (show (bnot (r37.v (g b6.toNat).ln 1 50000)) = true by rw [h3]; try rfl) (And.intro (show (bnot (r37.v (g b6.toNat).ln 1 50000)) = true by rw [h3]; try rfl) (And.intro (show (bnot (r37.v (g b6.toNat).ln 1 50000)) = true by rw [h3]; try rfl) (And.intro (show (bnot (r37.v (g b6.toNat).ln 1 50000)) = true by rw [h3]; try rfl) (And.intro (show (bnot (r37.v (g b6.toNat).ln 1 50000)) = true by rw [h3]; try rfl) (And.intro (show (bnot (r37.v (g b6.toNat).ln 1 50000)) = true by rw [h3]; try rfl) (And.intro (show (bnot (r37.v (g b6.toNat).ln 1 50000)) = true by rw [h3]; try rfl) (And.intro (show (bnot (r37.v (g b6.toNat).ln 1 50000)) = true by rw [h3]; try rfl) (And.intro (rfl : true = true) (L15b.en n g e (k_ := k_) (z_ := b6) (.e0 : L15b.O) (by first | (simp only [L15b.N, h1, h2, h3, cond_true, cond_false]; done) | (try unfold L15b.N; try simp only [h1, cond_true, cond_false]; try simp only [h2, cond_true, cond_false]; try simp only [h3, cond_true, cond_false]; try rfl; done)) PopOk.same)))))))))))))))))))))))⟩
    | false =>
      exact ⟨[.b true, .ret (AV.bool (r37.v (g b6.toNat).lo 0 50000)) ([]), .b true, .b true, .b true, .b true, .b true, .b true, .b true, .b true, .b true, .b true, .b true, .b true, .b true, .b true, .b true, .b true, .b true], kmp (by kernel_rfl) (And.intro h1 (And.intro (And.intro o0 o1) (And.intro (r37 ((g b6.toNat).lo) (0) (50000) ([])) (And.intro (show (bnot (r37.v (g b6.toNat).lo 0 50000)) = true by rw [h2]; try rfl) (And.intro (show (bnot (r37.v (g b6.toNat).lo 0 50000)) = true by rw [h2]; try rfl) (And.intro (show (bnot (r37.v (g b6.toNat).lo 0 50000)) = true by rw [h2]; try rfl) (And.intro (show (bnot (r37.v (g b6.toNat).lo 0 50000)) = true by rw [h2]; try rfl) (And.intro (show (bnot (r37.v (g b6.toNat).lo 0 50000)) = true by rw [h2]; try rfl) (And.intro (show (bnot (r37.v (g b6.toNat).lo 0 50000)) = true by rw [h2]; try rfl) (And.intro (show (bnot (r37.v (g b6.toNat).lo 0 50000)) = true by rw [h2]; try rfl) (And.intro (show (bnot (r37.v (g b6.toNat).lo 0 50000)) = true by rw [h2]; try rfl) (And.intro (rfl : true = true) (And.intro (rfl : true = true) (And.intro (rfl : true = true) (And.intro (rfl : true = true) (And.intro (rfl : true = true) (And.intro (rfl : true = true) (And.intro (rfl : true = true) (And.intro (rfl : true = true) (And.intro (rfl : true = true) (L15b.en n g e (k_ := k_) (z_ := b6) (.e0 : L15b.O) (by first | (simp only [L15b.N, h1, h2, cond_true, cond_false]; done) | (try unfold L15b.N; try simp only [h1, cond_true, cond_false]; try simp only [h2, cond_true, cond_false]; try rfl; done)) PopOk.same)))))))))))))))))))))⟩
  | false =>
    have h1p := of_decide_eq_false h1
    exact ⟨[.b false], kmp (by kernel_rfl) (And.intro h1 (L15b.en n g e (k_ := k_) (z_ := b6) (.e1 : L15b.O) (by first | (simp only [L15b.N, h1, cond_true, cond_false]; done) | (try unfold L15b.N; try simp only [h1, cond_true, cond_false]; try rfl; done)) PopOk.same))⟩

theorem L15b.e0 (n : Nat) (g : Nat → LD) (hn : n ≤ 9223372036854775807) (hg : ∀ (i : Nat), (g i).nm.size ≤ 9223372036854775807) (e : Int) (k1_1 : decide ((↑n : Int) > 64) = false) (p1_1 : ¬(↑n : Int) > 64) (b6 : Int) (hinv : L15b.inv n g e b6) (hN : L15b.run n g b6 = (.e0 : L15b.O)) : LoopTo Try.prog (loopN Try.f15 1) (L15b.T n g e b6) (L15b.H n g e b6) (Exit.ret) (L15b.X n g e (.e0 : L15b.O)) (L15b.XH n g e (.e0 : L15b.O)) := by
  have h_ := L15b.spec n g hn hg e k1_1 p1_1 ((((↑n : Int) - b6).toNat) + 1) b6 hinv (Nat.lt_succ_self _)
  unfold L15b.run at hN
  simp only [hN] at h_
  exact h_

theorem L15b.e1 (n : Nat) (g : Nat → LD) (hn : n ≤ 9223372036854775807) (hg : ∀ (i : Nat), (g i).nm.size ≤ 9223372036854775807) (e : Int) (k1_1 : decide ((↑n : Int) > 64) = false) (p1_1 : ¬(↑n : Int) > 64) (b6 : Int) (hinv : L15b.inv n g e b6) (hN : L15b.run n g b6 = (.e1 : L15b.O)) : LoopTo Try.prog (loopN Try.f15 1) (L15b.T n g e b6) (L15b.H n g e b6) (Exit.exit 2) (L15b.X n g e (.e1 : L15b.O)) (L15b.XH n g e (.e1 : L15b.O)) := by
  have h_ := L15b.spec n g hn hg e k1_1 p1_1 ((((↑n : Int) - b6).toNat) + 1) b6 hinv (Nat.lt_succ_self _)
  unfold L15b.run at hN
  simp only [hN] at h_
  exact h_

inductive L15cd.O where
  | e0
  | e1

noncomputable def L15cd.T (n : Nat) (g : Nat → LD) (e : Int) (c7 : Int) (d8 : Int) : List AV := mkT 151 [(0, AV.sl 4 n fun (i : Nat) => AV.agg [AV.str (g i).nm, AV.int IntKind.i64 (g i).lo, AV.int IntKind.i64 (g i).ln, AV.int IntKind.i64 (g i).ms]), (1, AV.int IntKind.i64 e), (7, AV.int IntKind.i64 c7), (8, AV.int IntKind.i64 d8)]

noncomputable def L15cd.H (n : Nat) (g : Nat → LD) (e : Int) (c7 : Int) (d8 : Int) : AHeap := []

def L15cd.inv (n : Nat) (g : Nat → LD) (e : Int) (c7 : Int) (d8 : Int) : Prop := 0 ≤ d8 ∧ (d8 ≤ c7 ∨ d8 ≤ 0)

noncomputable def L15cd.mu (n : Nat) (g : Nat → LD) (e : Int) (c7 : Int) (d8 : Int) : Nat := (c7 - d8).toNat

noncomputable def L15cd.E : L15cd.O → Exit
  | .e0 => Exit.ret
  | .e1 => Exit.exit 6

noncomputable def L15cd.X (n : Nat) (g : Nat → LD) (e : Int) (c7 : Int) : L15cd.O → List AV
  | .e0 => mkT 151 [(4, (AV.int IntKind.i64 5))]
  | .e1 => mkT 151 [(0, (AV.sl 4 n fun (i : Nat) => AV.agg [AV.str (g i).nm, AV.int IntKind.i64 (g i).lo, AV.int IntKind.i64 (g i).ln, AV.int IntKind.i64 (g i).ms])), (1, (AV.int IntKind.i64 e)), (7, (AV.int IntKind.i64 c7))]

noncomputable def L15cd.XH (n : Nat) (g : Nat → LD) (e : Int) (c7 : Int) : L15cd.O → AHeap
  | .e0 => ([])
  | .e1 => ([])

noncomputable def L15cd.N (g : Nat → LD) (c7 : Int) : Nat → Int → L15cd.O
  | 0, _ => .e0
  | k_ + 1, d8 => (bif decide (d8 < c7) then (bif (g c7.toNat).nm.toList == (g d8.toNat).nm.toList then (.e0) else (L15cd.N g c7 k_ (IntKind.i64.wrap (d8 + 1)))) else (.e1))

noncomputable def L15cd.run (g : Nat → LD) (c7 : Int) (d8 : Int) : L15cd.O := L15cd.N g c7 (((c7 - d8).toNat) + 1) d8

theorem L15cd.nx (n : Nat) (g : Nat → LD) (e : Int) (c7 : Int) {k_ : Nat} {z_ : Int} {h_ : AHeap} (s_ : Int) (h1 : L15cd.inv n g e c7 s_) (h2 : L15cd.mu n g e c7 s_ < L15cd.mu n g e c7 z_) (h3 : L15cd.N g c7 k_ s_ = L15cd.N g c7 (k_ + 1) z_) (h4 : PopOk (L15cd.H n g e c7 z_) h_ (L15cd.T n g e c7 s_) (L15cd.H n g e c7 s_)) : LNextP (fun (z_ : Int) => L15cd.T n g e c7 z_) (fun (z_ : Int) => L15cd.H n g e c7 z_) (fun (z_ : Int) => L15cd.inv n g e c7 z_) (fun (z_ : Int) => L15cd.mu n g e c7 z_) (fun (k_ : Nat) (z_ : Int) => L15cd.N g c7 k_ z_) k_ z_ (L15cd.T n g e c7 s_) h_ := LNextP.mk (Tm := (fun (z_ : Int) => L15cd.T n g e c7 z_)) (Hp := (fun (z_ : Int) => L15cd.H n g e c7 z_)) (inv := (fun (z_ : Int) => L15cd.inv n g e c7 z_)) (mu := (fun (z_ : Int) => L15cd.mu n g e c7 z_)) (l := (fun (k_ : Nat) (z_ : Int) => L15cd.N g c7 k_ z_)) s_ h1 h2 h3 h4

theorem L15cd.en (n : Nat) (g : Nat → LD) (e : Int) (c7 : Int) {k_ : Nat} {z_ : Int} {h_ : AHeap} (o_ : L15cd.O) (h3 : L15cd.N g c7 (k_ + 1) z_ = o_) (h4 : PopOk (L15cd.H n g e c7 z_) h_ (L15cd.X n g e c7 o_) (L15cd.XH n g e c7 o_)) : LEndP (fun (z_ : Int) => L15cd.H n g e c7 z_) (fun (k_ : Nat) (z_ : Int) => L15cd.N g c7 k_ z_) L15cd.E (L15cd.X n g e c7) (L15cd.XH n g e c7) k_ z_ (L15cd.E o_) (L15cd.X n g e c7 o_) h_ := LEndP.mk (Hp := (fun (z_ : Int) => L15cd.H n g e c7 z_)) (l := (fun (k_ : Nat) (z_ : Int) => L15cd.N g c7 k_ z_)) (oE := L15cd.E) (oT := L15cd.X n g e c7) (oH := L15cd.XH n g e c7) o_ h3 h4

theorem L15cd.spec (n : Nat) (g : Nat → LD) (hn : n ≤ 9223372036854775807) (hg : ∀ (i : Nat), (g i).nm.size ≤ 9223372036854775807) (e : Int) (k2_1 : decide ((↑n : Int) > 64) = false) (p2_1 : ¬(↑n : Int) > 64) (c7 : Int) (i15c_0 : 0 ≤ c7) (i15c_1 : c7 ≤ (↑n : Int) ∨ c7 ≤ 0) (k3_1 : decide (c7 < (↑n : Int)) = true) (p3_1 : c7 < (↑n : Int)) (k_ : Nat) (z_ : Int) (hi_ : L15cd.inv n g e c7 z_) (hm_ : L15cd.mu n g e c7 z_ < k_) : LoopTo Try.prog (loopN Try.f15 3) (L15cd.T n g e c7 z_) (L15cd.H n g e c7 z_) (L15cd.E (L15cd.N g c7 k_ z_)) (L15cd.X n g e c7 (L15cd.N g c7 k_ z_)) (L15cd.XH n g e c7 (L15cd.N g c7 k_ z_)) := by
  refine LoopTo.fuelP mix (fun (z_ : Int) => L15cd.T n g e c7 z_) (fun (z_ : Int) => L15cd.H n g e c7 z_) (fun (z_ : Int) => L15cd.inv n g e c7 z_) (fun (z_ : Int) => L15cd.mu n g e c7 z_) (fun (k_ : Nat) (z_ : Int) => L15cd.N g c7 k_ z_) L15cd.E (L15cd.X n g e c7) (L15cd.XH n g e c7) (others 151 [0, 1, 7, 8]) (others 151 [4]) (others 151 [0, 1, 7]) ?_ k_ z_ hi_ hm_
  clear hm_ hi_ z_ k_
  intro k_ z_ hinv hmu
  revert hinv hmu; revert z_; intro d8 hinv hmu
  have hinv : 0 ≤ d8 ∧ (d8 ≤ c7 ∨ d8 ≤ 0) := hinv
  have hmu : ((c7 - d8).toNat) < k_ + 1 := hmu
  cases h1 : decide (d8 < c7) with
  | true =>
    have h1p := of_decide_eq_true h1
    have o0 : (0 : Int) ≤ c7 := by first | assumption | omega | (exact hg _) | (exact hg _ (by omega)) | (simp_all; done)
    have o1 : c7 < (↑n : Int) := by first | assumption | omega | (exact hg _) | (exact hg _ (by omega)) | (simp_all; done)
    have o2 : (0 : Int) ≤ d8 := by first | assumption | omega | (exact hg _) | (exact hg _ (by omega)) | (simp_all; done)
    have o3 : d8 < (↑n : Int) := by first | assumption | omega | (exact hg _) | (exact hg _ (by omega)) | (simp_all; done)
    cases h2 : (g c7.toNat).nm.toList == (g d8.toNat).nm.toList with
    | true =>
      have h2p := str_eq h2
      exact ⟨[.b true, .b true], kmp (by kernel_rfl) (And.intro h1 (And.intro (And.intro o0 o1) (And.intro (And.intro o2 o3) (And.intro h2 (L15cd.en n g e c7 (k_ := k_) (z_ := d8) (.e0 : L15cd.O) (by first | (simp only [L15cd.N, h1, h2, cond_true, cond_false]; done) | (try unfold L15cd.N; try simp only [h1, cond_true, cond_false]; try simp only [h2, cond_true, cond_false]; try rfl; done)) PopOk.same)))))⟩
    | false =>
      have h2p := str_ne h2
      try have := IntWalk.i64_in (d8 + 1) (by omega)
      have o4 : (0 : Int) ≤ IntKind.i64.wrap (d8 + (1 : Int)) := by first | assumption | omega | (exact hg _) | (exact hg _ (by omega)) | (simp_all; done)
      have o5 : IntKind.i64.wrap (d8 + (1 : Int)) ≤ c7 ∨ IntKind.i64.wrap (d8 + (1 : Int)) ≤ (0 : Int) := by first | assumption | omega | (exact hg _) | (exact hg _ (by omega)) | (simp_all; done)
      have o6 : (c7 - IntKind.i64.wrap (d8 + (1 : Int))).toNat < (c7 - d8).toNat := by first | assumption | omega | (exact hg _) | (exact hg _ (by omega)) | (simp_all; done)
      exact ⟨[.b true, .b false], kmp (by kernel_rfl) (And.intro h1 (And.intro (And.intro o0 o1) (And.intro (And.intro o2 o3) (And.intro h2 (L15cd.nx n g e c7 (k_ := k_) (z_ := d8) (IntKind.i64.wrap (d8 + 1)) (And.intro o4 o5) o6 (by first | (simp only [L15cd.N, h1, h2, cond_true, cond_false]; done) | (try unfold L15cd.N; try simp only [h1, cond_true, cond_false]; try simp only [h2, cond_true, cond_false]; try rfl; done)) PopOk.same)))))⟩
  | false =>
    have h1p := of_decide_eq_false h1
    exact ⟨[.b false], kmp (by kernel_rfl) (And.intro h1 (L15cd.en n g e c7 (k_ := k_) (z_ := d8) (.e1 : L15cd.O) (by first | (simp only [L15cd.N, h1, cond_true, cond_false]; done) | (try unfold L15cd.N; try simp only [h1, cond_true, cond_false]; try rfl; done)) PopOk.same))⟩

theorem L15cd.e0 (n : Nat) (g : Nat → LD) (hn : n ≤ 9223372036854775807) (hg : ∀ (i : Nat), (g i).nm.size ≤ 9223372036854775807) (e : Int) (k2_1 : decide ((↑n : Int) > 64) = false) (p2_1 : ¬(↑n : Int) > 64) (c7 : Int) (i15c_0 : 0 ≤ c7) (i15c_1 : c7 ≤ (↑n : Int) ∨ c7 ≤ 0) (k3_1 : decide (c7 < (↑n : Int)) = true) (p3_1 : c7 < (↑n : Int)) (d8 : Int) (hinv : L15cd.inv n g e c7 d8) (hN : L15cd.run g c7 d8 = (.e0 : L15cd.O)) : LoopTo Try.prog (loopN Try.f15 3) (L15cd.T n g e c7 d8) (L15cd.H n g e c7 d8) (Exit.ret) (L15cd.X n g e c7 (.e0 : L15cd.O)) (L15cd.XH n g e c7 (.e0 : L15cd.O)) := by
  have h_ := L15cd.spec n g hn hg e k2_1 p2_1 c7 i15c_0 i15c_1 k3_1 p3_1 (((c7 - d8).toNat) + 1) d8 hinv (Nat.lt_succ_self _)
  unfold L15cd.run at hN
  simp only [hN] at h_
  exact h_

theorem L15cd.e1 (n : Nat) (g : Nat → LD) (hn : n ≤ 9223372036854775807) (hg : ∀ (i : Nat), (g i).nm.size ≤ 9223372036854775807) (e : Int) (k2_1 : decide ((↑n : Int) > 64) = false) (p2_1 : ¬(↑n : Int) > 64) (c7 : Int) (i15c_0 : 0 ≤ c7) (i15c_1 : c7 ≤ (↑n : Int) ∨ c7 ≤ 0) (k3_1 : decide (c7 < (↑n : Int)) = true) (p3_1 : c7 < (↑n : Int)) (d8 : Int) (hinv : L15cd.inv n g e c7 d8) (hN : L15cd.run g c7 d8 = (.e1 : L15cd.O)) : LoopTo Try.prog (loopN Try.f15 3) (L15cd.T n g e c7 d8) (L15cd.H n g e c7 d8) (Exit.exit 6) (L15cd.X n g e c7 (.e1 : L15cd.O)) (L15cd.XH n g e c7 (.e1 : L15cd.O)) := by
  have h_ := L15cd.spec n g hn hg e k2_1 p2_1 c7 i15c_0 i15c_1 k3_1 p3_1 (((c7 - d8).toNat) + 1) d8 hinv (Nat.lt_succ_self _)
  unfold L15cd.run at hN
  simp only [hN] at h_
  exact h_

inductive L15c.O where
  | e0
  | e1

noncomputable def L15c.T (n : Nat) (g : Nat → LD) (e : Int) (c7 : Int) : List AV := mkT 151 [(0, AV.sl 4 n fun (i : Nat) => AV.agg [AV.str (g i).nm, AV.int IntKind.i64 (g i).lo, AV.int IntKind.i64 (g i).ln, AV.int IntKind.i64 (g i).ms]), (1, AV.int IntKind.i64 e), (7, AV.int IntKind.i64 c7)]

noncomputable def L15c.H (n : Nat) (g : Nat → LD) (e : Int) (c7 : Int) : AHeap := []

def L15c.inv (n : Nat) (g : Nat → LD) (e : Int) (c7 : Int) : Prop := 0 ≤ c7 ∧ (c7 ≤ (↑n : Int) ∨ c7 ≤ 0)

noncomputable def L15c.mu (n : Nat) (g : Nat → LD) (e : Int) (c7 : Int) : Nat := ((↑n : Int) - c7).toNat

noncomputable def L15c.E : L15c.O → Exit
  | .e0 => Exit.ret
  | .e1 => Exit.exit 4

noncomputable def L15c.X (n : Nat) (g : Nat → LD) (e : Int) : L15c.O → List AV
  | .e0 => mkT 151 [(4, (AV.int IntKind.i64 5))]
  | .e1 => mkT 151 [(0, (AV.sl 4 n fun (i : Nat) => AV.agg [AV.str (g i).nm, AV.int IntKind.i64 (g i).lo, AV.int IntKind.i64 (g i).ln, AV.int IntKind.i64 (g i).ms])), (1, (AV.int IntKind.i64 e))]

noncomputable def L15c.XH (n : Nat) (g : Nat → LD) (e : Int) : L15c.O → AHeap
  | .e0 => ([])
  | .e1 => ([])

noncomputable def L15c.N (n : Nat) (g : Nat → LD) : Nat → Int → L15c.O
  | 0, _ => .e0
  | k_ + 1, c7 => (bif decide (c7 < (↑n : Int)) then (match L15cd.run g c7 0 with | .e0 => (.e0) | .e1 => (L15c.N n g k_ (IntKind.i64.wrap (c7 + 1))) ) else (.e1))

noncomputable def L15c.run (n : Nat) (g : Nat → LD) (c7 : Int) : L15c.O := L15c.N n g ((((↑n : Int) - c7).toNat) + 1) c7

theorem L15c.nx (n : Nat) (g : Nat → LD) (e : Int) {k_ : Nat} {z_ : Int} {h_ : AHeap} (s_ : Int) (h1 : L15c.inv n g e s_) (h2 : L15c.mu n g e s_ < L15c.mu n g e z_) (h3 : L15c.N n g k_ s_ = L15c.N n g (k_ + 1) z_) (h4 : PopOk (L15c.H n g e z_) h_ (L15c.T n g e s_) (L15c.H n g e s_)) : LNextP (fun (z_ : Int) => L15c.T n g e z_) (fun (z_ : Int) => L15c.H n g e z_) (fun (z_ : Int) => L15c.inv n g e z_) (fun (z_ : Int) => L15c.mu n g e z_) (fun (k_ : Nat) (z_ : Int) => L15c.N n g k_ z_) k_ z_ (L15c.T n g e s_) h_ := LNextP.mk (Tm := (fun (z_ : Int) => L15c.T n g e z_)) (Hp := (fun (z_ : Int) => L15c.H n g e z_)) (inv := (fun (z_ : Int) => L15c.inv n g e z_)) (mu := (fun (z_ : Int) => L15c.mu n g e z_)) (l := (fun (k_ : Nat) (z_ : Int) => L15c.N n g k_ z_)) s_ h1 h2 h3 h4

theorem L15c.en (n : Nat) (g : Nat → LD) (e : Int) {k_ : Nat} {z_ : Int} {h_ : AHeap} (o_ : L15c.O) (h3 : L15c.N n g (k_ + 1) z_ = o_) (h4 : PopOk (L15c.H n g e z_) h_ (L15c.X n g e o_) (L15c.XH n g e o_)) : LEndP (fun (z_ : Int) => L15c.H n g e z_) (fun (k_ : Nat) (z_ : Int) => L15c.N n g k_ z_) L15c.E (L15c.X n g e) (L15c.XH n g e) k_ z_ (L15c.E o_) (L15c.X n g e o_) h_ := LEndP.mk (Hp := (fun (z_ : Int) => L15c.H n g e z_)) (l := (fun (k_ : Nat) (z_ : Int) => L15c.N n g k_ z_)) (oE := L15c.E) (oT := L15c.X n g e) (oH := L15c.XH n g e) o_ h3 h4

theorem L15c.spec (n : Nat) (g : Nat → LD) (hn : n ≤ 9223372036854775807) (hg : ∀ (i : Nat), (g i).nm.size ≤ 9223372036854775807) (e : Int) (k2_1 : decide ((↑n : Int) > 64) = false) (p2_1 : ¬(↑n : Int) > 64) (k_ : Nat) (z_ : Int) (hi_ : L15c.inv n g e z_) (hm_ : L15c.mu n g e z_ < k_) : LoopTo Try.prog (loopN Try.f15 2) (L15c.T n g e z_) (L15c.H n g e z_) (L15c.E (L15c.N n g k_ z_)) (L15c.X n g e (L15c.N n g k_ z_)) (L15c.XH n g e (L15c.N n g k_ z_)) := by
  refine LoopTo.fuelP mix (fun (z_ : Int) => L15c.T n g e z_) (fun (z_ : Int) => L15c.H n g e z_) (fun (z_ : Int) => L15c.inv n g e z_) (fun (z_ : Int) => L15c.mu n g e z_) (fun (k_ : Nat) (z_ : Int) => L15c.N n g k_ z_) L15c.E (L15c.X n g e) (L15c.XH n g e) (others 151 [0, 1, 7]) (others 151 [4]) (others 151 [0, 1]) ?_ k_ z_ hi_ hm_
  clear hm_ hi_ z_ k_
  intro k_ z_ hinv hmu
  revert hinv hmu; revert z_; intro c7 hinv hmu
  have hinv : 0 ≤ c7 ∧ (c7 ≤ (↑n : Int) ∨ c7 ≤ 0) := hinv
  have hmu : (((↑n : Int) - c7).toNat) < k_ + 1 := hmu
  cases h1 : decide (c7 < (↑n : Int)) with
  | true =>
    have h1p := of_decide_eq_true h1
    have o0 : n ≤ (9223372036854775807 : Nat) := by first | assumption | omega | (exact hg _) | (exact hg _ (by omega)) | (simp_all; done)
    have o1 : ∀ (i : Nat), (g i).nm.size ≤ (9223372036854775807 : Nat) := by first | assumption | omega | (exact hg _) | (exact hg _ (by omega)) | (simp_all; done)
    have o2 : decide ((↑n : Int) > (64 : Int)) = false := by first | assumption | omega | (exact hg _) | (exact hg _ (by omega)) | (simp_all; done)
    have o3 : ¬(↑n : Int) > (64 : Int) := by first | assumption | (exact hg _) | (exact hg _ (by omega)) | (simp_all; done)
    have o4 : (0 : Int) ≤ c7 := by first | assumption | omega | (exact hg _) | (exact hg _ (by omega)) | (simp_all; done)
    have o5 : c7 ≤ (↑n : Int) ∨ c7 ≤ (0 : Int) := by first | assumption | omega | (exact hg _) | (exact hg _ (by omega)) | (simp_all; done)
    have o6 : decide (c7 < (↑n : Int)) = true := by first | assumption | omega | (exact hg _) | (exact hg _ (by omega)) | (simp_all; done)
    have o7 : c7 < (↑n : Int) := by first | assumption | omega | (exact hg _) | (exact hg _ (by omega)) | (simp_all; done)
    have o8 : (0 : Int) ≤ c7 ∨ (0 : Int) ≤ (0 : Int) := by first | assumption | omega | (exact hg _) | (exact hg _ (by omega)) | (simp_all; done)
    cases h2 : L15cd.run g c7 0 with
    | e0 =>
      exact ⟨[.b true, .loop (others 151 [0, 1, 7, 8]) (Exit.ret) (L15cd.X n g e c7 L15cd.O.e0) (L15cd.XH n g e c7 L15cd.O.e0)], kmp (by kernel_rfl) (And.intro h1 (And.intro (L15cd.e0 (n) (g) o0 o1 (e) o2 o3 (c7) o4 o5 o6 o7 (0) (And.intro (show (0 : Int) ≤ (0 : Int) by first | decide | exact Int.NonNeg.mk _) o8) h2) (L15c.en n g e (k_ := k_) (z_ := c7) (.e0 : L15c.O) (by first | (simp only [L15c.N, h1, h2, cond_true, cond_false]; done) | (try unfold L15c.N; try simp only [h1, cond_true, cond_false]; try simp only [h2, cond_true, cond_false]; try rfl; done)) PopOk.same)))⟩
    | e1 =>
      try have := IntWalk.i64_in (c7 + 1) (by omega)
      have o9 : (0 : Int) ≤ IntKind.i64.wrap (c7 + (1 : Int)) := by first | assumption | omega | (exact hg _) | (exact hg _ (by omega)) | (simp_all; done)
      have o10 : IntKind.i64.wrap (c7 + (1 : Int)) ≤ (↑n : Int) ∨ IntKind.i64.wrap (c7 + (1 : Int)) ≤ (0 : Int) := by first | assumption | omega | (exact hg _) | (exact hg _ (by omega)) | (simp_all; done)
      have o11 : ((↑n : Int) - IntKind.i64.wrap (c7 + (1 : Int))).toNat < ((↑n : Int) - c7).toNat := by first | assumption | omega | (exact hg _) | (exact hg _ (by omega)) | (simp_all; done)
      exact ⟨[.b true, .loop (others 151 [0, 1, 7, 8]) (Exit.exit 6) (L15cd.X n g e c7 L15cd.O.e1) (L15cd.XH n g e c7 L15cd.O.e1)], kmp (by kernel_rfl) (And.intro h1 (And.intro (L15cd.e1 (n) (g) o0 o1 (e) o2 o3 (c7) o4 o5 o6 o7 (0) (And.intro (show (0 : Int) ≤ (0 : Int) by first | decide | exact Int.NonNeg.mk _) o8) h2) (L15c.nx n g e (k_ := k_) (z_ := c7) (IntKind.i64.wrap (c7 + 1)) (And.intro o9 o10) o11 (by first | (simp only [L15c.N, h1, h2, cond_true, cond_false]; done) | (try unfold L15c.N; try simp only [h1, cond_true, cond_false]; try simp only [h2, cond_true, cond_false]; try rfl; done)) PopOk.same)))⟩
  | false =>
    have h1p := of_decide_eq_false h1
    exact ⟨[.b false], kmp (by kernel_rfl) (And.intro h1 (L15c.en n g e (k_ := k_) (z_ := c7) (.e1 : L15c.O) (by first | (simp only [L15c.N, h1, cond_true, cond_false]; done) | (try unfold L15c.N; try simp only [h1, cond_true, cond_false]; try rfl; done)) PopOk.same))⟩

theorem L15c.e0 (n : Nat) (g : Nat → LD) (hn : n ≤ 9223372036854775807) (hg : ∀ (i : Nat), (g i).nm.size ≤ 9223372036854775807) (e : Int) (k2_1 : decide ((↑n : Int) > 64) = false) (p2_1 : ¬(↑n : Int) > 64) (c7 : Int) (hinv : L15c.inv n g e c7) (hN : L15c.run n g c7 = (.e0 : L15c.O)) : LoopTo Try.prog (loopN Try.f15 2) (L15c.T n g e c7) (L15c.H n g e c7) (Exit.ret) (L15c.X n g e (.e0 : L15c.O)) (L15c.XH n g e (.e0 : L15c.O)) := by
  have h_ := L15c.spec n g hn hg e k2_1 p2_1 ((((↑n : Int) - c7).toNat) + 1) c7 hinv (Nat.lt_succ_self _)
  unfold L15c.run at hN
  simp only [hN] at h_
  exact h_

theorem L15c.e1 (n : Nat) (g : Nat → LD) (hn : n ≤ 9223372036854775807) (hg : ∀ (i : Nat), (g i).nm.size ≤ 9223372036854775807) (e : Int) (k2_1 : decide ((↑n : Int) > 64) = false) (p2_1 : ¬(↑n : Int) > 64) (c7 : Int) (hinv : L15c.inv n g e c7) (hN : L15c.run n g c7 = (.e1 : L15c.O)) : LoopTo Try.prog (loopN Try.f15 2) (L15c.T n g e c7) (L15c.H n g e c7) (Exit.exit 4) (L15c.X n g e (.e1 : L15c.O)) (L15c.XH n g e (.e1 : L15c.O)) := by
  have h_ := L15c.spec n g hn hg e k2_1 p2_1 ((((↑n : Int) - c7).toNat) + 1) c7 hinv (Nat.lt_succ_self _)
  unfold L15c.run at hN
  simp only [hN] at h_
  exact h_

inductive L15e.O where
  | e0
  | e1

noncomputable def L15e.T (n : Nat) (g : Nat → LD) (e : Int) (e9 : Int) : List AV := mkT 151 [(0, AV.sl 4 n fun (i : Nat) => AV.agg [AV.str (g i).nm, AV.int IntKind.i64 (g i).lo, AV.int IntKind.i64 (g i).ln, AV.int IntKind.i64 (g i).ms]), (1, AV.int IntKind.i64 e), (9, AV.int IntKind.i64 e9)]

noncomputable def L15e.H (n : Nat) (g : Nat → LD) (e : Int) (e9 : Int) : AHeap := []

def L15e.inv (n : Nat) (g : Nat → LD) (e : Int) (e9 : Int) : Prop := 0 ≤ e9 ∧ (e9 ≤ (↑n : Int) ∨ e9 ≤ 0)

noncomputable def L15e.mu (n : Nat) (g : Nat → LD) (e : Int) (e9 : Int) : Nat := ((↑n : Int) - e9).toNat

noncomputable def L15e.E : L15e.O → Exit
  | .e0 => Exit.ret
  | .e1 => Exit.exit 8

noncomputable def L15e.X (n : Nat) (g : Nat → LD) (e : Int) : L15e.O → List AV
  | .e0 => mkT 151 [(4, (AV.int IntKind.i64 12))]
  | .e1 => mkT 151 [(0, (AV.sl 4 n fun (i : Nat) => AV.agg [AV.str (g i).nm, AV.int IntKind.i64 (g i).lo, AV.int IntKind.i64 (g i).ln, AV.int IntKind.i64 (g i).ms]))]

noncomputable def L15e.XH (n : Nat) (g : Nat → LD) (e : Int) : L15e.O → AHeap
  | .e0 => ([])
  | .e1 => ([])

noncomputable def L15e.N (n : Nat) (g : Nat → LD) (e : Int) : Nat → Int → L15e.O
  | 0, _ => .e0
  | k_ + 1, e9 => (bif decide (e9 < (↑n : Int)) then (bif decide (e ≥ 0) then (bif decide (IntKind.i64.wrap ((g e9.toNat).lo + (g e9.toNat).ln) > e) then (.e0) else (L15e.N n g e k_ (IntKind.i64.wrap (e9 + 1)))) else (L15e.N n g e k_ (IntKind.i64.wrap (e9 + 1)))) else (.e1))

noncomputable def L15e.run (n : Nat) (g : Nat → LD) (e : Int) (e9 : Int) : L15e.O := L15e.N n g e ((((↑n : Int) - e9).toNat) + 1) e9

theorem L15e.nx (n : Nat) (g : Nat → LD) (e : Int) {k_ : Nat} {z_ : Int} {h_ : AHeap} (s_ : Int) (h1 : L15e.inv n g e s_) (h2 : L15e.mu n g e s_ < L15e.mu n g e z_) (h3 : L15e.N n g e k_ s_ = L15e.N n g e (k_ + 1) z_) (h4 : PopOk (L15e.H n g e z_) h_ (L15e.T n g e s_) (L15e.H n g e s_)) : LNextP (fun (z_ : Int) => L15e.T n g e z_) (fun (z_ : Int) => L15e.H n g e z_) (fun (z_ : Int) => L15e.inv n g e z_) (fun (z_ : Int) => L15e.mu n g e z_) (fun (k_ : Nat) (z_ : Int) => L15e.N n g e k_ z_) k_ z_ (L15e.T n g e s_) h_ := LNextP.mk (Tm := (fun (z_ : Int) => L15e.T n g e z_)) (Hp := (fun (z_ : Int) => L15e.H n g e z_)) (inv := (fun (z_ : Int) => L15e.inv n g e z_)) (mu := (fun (z_ : Int) => L15e.mu n g e z_)) (l := (fun (k_ : Nat) (z_ : Int) => L15e.N n g e k_ z_)) s_ h1 h2 h3 h4

theorem L15e.en (n : Nat) (g : Nat → LD) (e : Int) {k_ : Nat} {z_ : Int} {h_ : AHeap} (o_ : L15e.O) (h3 : L15e.N n g e (k_ + 1) z_ = o_) (h4 : PopOk (L15e.H n g e z_) h_ (L15e.X n g e o_) (L15e.XH n g e o_)) : LEndP (fun (z_ : Int) => L15e.H n g e z_) (fun (k_ : Nat) (z_ : Int) => L15e.N n g e k_ z_) L15e.E (L15e.X n g e) (L15e.XH n g e) k_ z_ (L15e.E o_) (L15e.X n g e o_) h_ := LEndP.mk (Hp := (fun (z_ : Int) => L15e.H n g e z_)) (l := (fun (k_ : Nat) (z_ : Int) => L15e.N n g e k_ z_)) (oE := L15e.E) (oT := L15e.X n g e) (oH := L15e.XH n g e) o_ h3 h4

theorem L15e.spec (n : Nat) (g : Nat → LD) (hn : n ≤ 9223372036854775807) (hg : ∀ (i : Nat), (g i).nm.size ≤ 9223372036854775807) (e : Int) (k4_1 : decide ((↑n : Int) > 64) = false) (p4_1 : ¬(↑n : Int) > 64) (k_ : Nat) (z_ : Int) (hi_ : L15e.inv n g e z_) (hm_ : L15e.mu n g e z_ < k_) : LoopTo Try.prog (loopN Try.f15 4) (L15e.T n g e z_) (L15e.H n g e z_) (L15e.E (L15e.N n g e k_ z_)) (L15e.X n g e (L15e.N n g e k_ z_)) (L15e.XH n g e (L15e.N n g e k_ z_)) := by
  refine LoopTo.fuelP mix (fun (z_ : Int) => L15e.T n g e z_) (fun (z_ : Int) => L15e.H n g e z_) (fun (z_ : Int) => L15e.inv n g e z_) (fun (z_ : Int) => L15e.mu n g e z_) (fun (k_ : Nat) (z_ : Int) => L15e.N n g e k_ z_) L15e.E (L15e.X n g e) (L15e.XH n g e) (others 151 [0, 1, 9]) (others 151 [4]) (others 151 [0]) ?_ k_ z_ hi_ hm_
  clear hm_ hi_ z_ k_
  intro k_ z_ hinv hmu
  revert hinv hmu; revert z_; intro e9 hinv hmu
  have hinv : 0 ≤ e9 ∧ (e9 ≤ (↑n : Int) ∨ e9 ≤ 0) := hinv
  have hmu : (((↑n : Int) - e9).toNat) < k_ + 1 := hmu
  cases h1 : decide (e9 < (↑n : Int)) with
  | true =>
    have h1p := of_decide_eq_true h1
    cases h2 : decide (e ≥ 0) with
    | true =>
      have h2p := of_decide_eq_true h2
      have o0 : (0 : Int) ≤ e9 := by first | assumption | omega | (exact hg _) | (exact hg _ (by omega)) | (simp_all; done)
      have o1 : e9 < (↑n : Int) := by first | assumption | omega | (exact hg _) | (exact hg _ (by omega)) | (simp_all; done)
      cases h3 : decide (IntKind.i64.wrap ((g e9.toNat).lo + (g e9.toNat).ln) > e) with
      | true =>
        have h3p := of_decide_eq_true h3
        exact ⟨[.b true, .b true, .b true, .b true, .b true, .b true, .b true, .b true, .b true, .b true, .b true, .b true, .b true, .b true, .b true, .b true], kmp (by kernel_rfl) (And.intro h1 (And.intro h2 (And.intro h2 (And.intro h2 (And.intro (And.intro o0 o1) (And.intro h2 (And.intro h2 (And.intro h2 (And.intro h2 (And.intro h2 (And.intro (And.intro o0 o1) (And.intro h2 (And.intro h2 (And.intro h2 (And.intro h2 (And.intro h2 (And.intro h2 (And.intro h3 (L15e.en n g e (k_ := k_) (z_ := e9) (.e0 : L15e.O) (by first | (simp only [L15e.N, h1, h2, h3, cond_true, cond_false]; done) | (try unfold L15e.N; try simp only [h1, cond_true, cond_false]; try simp only [h2, cond_true, cond_false]; try simp only [h3, cond_true, cond_false]; try rfl; done)) PopOk.same)))))))))))))))))))⟩
      | false =>
        have h3p := of_decide_eq_false h3
        try have := IntWalk.i64_in (e9 + 1) (by omega)
        have o2 : (0 : Int) ≤ IntKind.i64.wrap (e9 + (1 : Int)) := by first | assumption | omega | (exact hg _) | (exact hg _ (by omega)) | (simp_all; done)
        have o3 : IntKind.i64.wrap (e9 + (1 : Int)) ≤ (↑n : Int) ∨ IntKind.i64.wrap (e9 + (1 : Int)) ≤ (0 : Int) := by first | assumption | omega | (exact hg _) | (exact hg _ (by omega)) | (simp_all; done)
        have o4 : ((↑n : Int) - IntKind.i64.wrap (e9 + (1 : Int))).toNat < ((↑n : Int) - e9).toNat := by first | assumption | omega | (exact hg _) | (exact hg _ (by omega)) | (simp_all; done)
        exact ⟨[.b true, .b true, .b true, .b true, .b true, .b true, .b true, .b true, .b true, .b true, .b true, .b true, .b true, .b true, .b true, .b false], kmp (by kernel_rfl) (And.intro h1 (And.intro h2 (And.intro h2 (And.intro h2 (And.intro (And.intro o0 o1) (And.intro h2 (And.intro h2 (And.intro h2 (And.intro h2 (And.intro h2 (And.intro (And.intro o0 o1) (And.intro h2 (And.intro h2 (And.intro h2 (And.intro h2 (And.intro h2 (And.intro h2 (And.intro h3 (L15e.nx n g e (k_ := k_) (z_ := e9) (IntKind.i64.wrap (e9 + 1)) (And.intro o2 o3) o4 (by first | (simp only [L15e.N, h1, h2, h3, cond_true, cond_false]; done) | (try unfold L15e.N; try simp only [h1, cond_true, cond_false]; try simp only [h2, cond_true, cond_false]; try simp only [h3, cond_true, cond_false]; try rfl; done)) PopOk.same)))))))))))))))))))⟩
    | false =>
      have h2p := of_decide_eq_false h2
      try have := IntWalk.i64_in (e9 + 1) (by omega)
      have o2 : (0 : Int) ≤ IntKind.i64.wrap (e9 + (1 : Int)) := by first | assumption | omega | (exact hg _) | (exact hg _ (by omega)) | (simp_all; done)
      have o3 : IntKind.i64.wrap (e9 + (1 : Int)) ≤ (↑n : Int) ∨ IntKind.i64.wrap (e9 + (1 : Int)) ≤ (0 : Int) := by first | assumption | omega | (exact hg _) | (exact hg _ (by omega)) | (simp_all; done)
      have o4 : ((↑n : Int) - IntKind.i64.wrap (e9 + (1 : Int))).toNat < ((↑n : Int) - e9).toNat := by first | assumption | omega | (exact hg _) | (exact hg _ (by omega)) | (simp_all; done)
      exact ⟨[.b true, .b false, .b false, .b false, .b false, .b false, .b false, .b false, .b false, .b false, .b false, .b false, .b false, .b false, .b false, .b false], kmp (by kernel_rfl) (And.intro h1 (And.intro h2 (And.intro h2 (And.intro h2 (And.intro h2 (And.intro h2 (And.intro h2 (And.intro h2 (And.intro h2 (And.intro h2 (And.intro h2 (And.intro h2 (And.intro h2 (And.intro h2 (And.intro h2 (And.intro (rfl : false = false) (L15e.nx n g e (k_ := k_) (z_ := e9) (IntKind.i64.wrap (e9 + 1)) (And.intro o2 o3) o4 (by first | (simp only [L15e.N, h1, h2, cond_true, cond_false]; done) | (try unfold L15e.N; try simp only [h1, cond_true, cond_false]; try simp only [h2, cond_true, cond_false]; try rfl; done)) PopOk.same)))))))))))))))))⟩
  | false =>
    have h1p := of_decide_eq_false h1
    exact ⟨[.b false], kmp (by kernel_rfl) (And.intro h1 (L15e.en n g e (k_ := k_) (z_ := e9) (.e1 : L15e.O) (by first | (simp only [L15e.N, h1, cond_true, cond_false]; done) | (try unfold L15e.N; try simp only [h1, cond_true, cond_false]; try rfl; done)) PopOk.same))⟩

theorem L15e.e0 (n : Nat) (g : Nat → LD) (hn : n ≤ 9223372036854775807) (hg : ∀ (i : Nat), (g i).nm.size ≤ 9223372036854775807) (e : Int) (k4_1 : decide ((↑n : Int) > 64) = false) (p4_1 : ¬(↑n : Int) > 64) (e9 : Int) (hinv : L15e.inv n g e e9) (hN : L15e.run n g e e9 = (.e0 : L15e.O)) : LoopTo Try.prog (loopN Try.f15 4) (L15e.T n g e e9) (L15e.H n g e e9) (Exit.ret) (L15e.X n g e (.e0 : L15e.O)) (L15e.XH n g e (.e0 : L15e.O)) := by
  have h_ := L15e.spec n g hn hg e k4_1 p4_1 ((((↑n : Int) - e9).toNat) + 1) e9 hinv (Nat.lt_succ_self _)
  unfold L15e.run at hN
  simp only [hN] at h_
  exact h_

theorem L15e.e1 (n : Nat) (g : Nat → LD) (hn : n ≤ 9223372036854775807) (hg : ∀ (i : Nat), (g i).nm.size ≤ 9223372036854775807) (e : Int) (k4_1 : decide ((↑n : Int) > 64) = false) (p4_1 : ¬(↑n : Int) > 64) (e9 : Int) (hinv : L15e.inv n g e e9) (hN : L15e.run n g e e9 = (.e1 : L15e.O)) : LoopTo Try.prog (loopN Try.f15 4) (L15e.T n g e e9) (L15e.H n g e e9) (Exit.exit 8) (L15e.X n g e (.e1 : L15e.O)) (L15e.XH n g e (.e1 : L15e.O)) := by
  have h_ := L15e.spec n g hn hg e k4_1 p4_1 ((((↑n : Int) - e9).toNat) + 1) e9 hinv (Nat.lt_succ_self _)
  unfold L15e.run at hN
  simp only [hN] at h_
  exact h_

inductive L15fg.O where
  | e0
  | e1

noncomputable def L15fg.T (n : Nat) (g : Nat → LD) (f10 : Int) (g11 : Int) : List AV := mkT 151 [(0, AV.sl 4 n fun (i : Nat) => AV.agg [AV.str (g i).nm, AV.int IntKind.i64 (g i).lo, AV.int IntKind.i64 (g i).ln, AV.int IntKind.i64 (g i).ms]), (10, AV.int IntKind.i64 f10), (11, AV.int IntKind.i64 g11)]

noncomputable def L15fg.H (n : Nat) (g : Nat → LD) (f10 : Int) (g11 : Int) : AHeap := []

def L15fg.inv (n : Nat) (g : Nat → LD) (f10 : Int) (g11 : Int) : Prop := 0 ≤ g11 ∧ (g11 ≤ f10 ∨ g11 ≤ 0)

noncomputable def L15fg.mu (n : Nat) (g : Nat → LD) (f10 : Int) (g11 : Int) : Nat := (f10 - g11).toNat

noncomputable def L15fg.E : L15fg.O → Exit
  | .e0 => Exit.ret
  | .e1 => Exit.exit 12

noncomputable def L15fg.X (n : Nat) (g : Nat → LD) (f10 : Int) : L15fg.O → List AV
  | .e0 => mkT 151 [(4, (AV.int IntKind.i64 11))]
  | .e1 => mkT 151 [(0, (AV.sl 4 n fun (i : Nat) => AV.agg [AV.str (g i).nm, AV.int IntKind.i64 (g i).lo, AV.int IntKind.i64 (g i).ln, AV.int IntKind.i64 (g i).ms])), (10, (AV.int IntKind.i64 f10))]

noncomputable def L15fg.XH (n : Nat) (g : Nat → LD) (f10 : Int) : L15fg.O → AHeap
  | .e0 => ([])
  | .e1 => ([])

noncomputable def L15fg.N (g : Nat → LD) (f10 : Int) : Nat → Int → L15fg.O
  | 0, _ => .e0
  | k_ + 1, g11 => (bif decide (g11 < f10) then (bif decide ((g f10.toNat).lo < IntKind.i64.wrap ((g g11.toNat).lo + (g g11.toNat).ln)) then (bif decide ((g g11.toNat).lo < IntKind.i64.wrap ((g f10.toNat).lo + (g f10.toNat).ln)) then (.e0) else (L15fg.N g f10 k_ (IntKind.i64.wrap (g11 + 1)))) else (L15fg.N g f10 k_ (IntKind.i64.wrap (g11 + 1)))) else (.e1))

noncomputable def L15fg.run (g : Nat → LD) (f10 : Int) (g11 : Int) : L15fg.O := L15fg.N g f10 (((f10 - g11).toNat) + 1) g11

theorem L15fg.nx (n : Nat) (g : Nat → LD) (f10 : Int) {k_ : Nat} {z_ : Int} {h_ : AHeap} (s_ : Int) (h1 : L15fg.inv n g f10 s_) (h2 : L15fg.mu n g f10 s_ < L15fg.mu n g f10 z_) (h3 : L15fg.N g f10 k_ s_ = L15fg.N g f10 (k_ + 1) z_) (h4 : PopOk (L15fg.H n g f10 z_) h_ (L15fg.T n g f10 s_) (L15fg.H n g f10 s_)) : LNextP (fun (z_ : Int) => L15fg.T n g f10 z_) (fun (z_ : Int) => L15fg.H n g f10 z_) (fun (z_ : Int) => L15fg.inv n g f10 z_) (fun (z_ : Int) => L15fg.mu n g f10 z_) (fun (k_ : Nat) (z_ : Int) => L15fg.N g f10 k_ z_) k_ z_ (L15fg.T n g f10 s_) h_ := LNextP.mk (Tm := (fun (z_ : Int) => L15fg.T n g f10 z_)) (Hp := (fun (z_ : Int) => L15fg.H n g f10 z_)) (inv := (fun (z_ : Int) => L15fg.inv n g f10 z_)) (mu := (fun (z_ : Int) => L15fg.mu n g f10 z_)) (l := (fun (k_ : Nat) (z_ : Int) => L15fg.N g f10 k_ z_)) s_ h1 h2 h3 h4

theorem L15fg.en (n : Nat) (g : Nat → LD) (f10 : Int) {k_ : Nat} {z_ : Int} {h_ : AHeap} (o_ : L15fg.O) (h3 : L15fg.N g f10 (k_ + 1) z_ = o_) (h4 : PopOk (L15fg.H n g f10 z_) h_ (L15fg.X n g f10 o_) (L15fg.XH n g f10 o_)) : LEndP (fun (z_ : Int) => L15fg.H n g f10 z_) (fun (k_ : Nat) (z_ : Int) => L15fg.N g f10 k_ z_) L15fg.E (L15fg.X n g f10) (L15fg.XH n g f10) k_ z_ (L15fg.E o_) (L15fg.X n g f10 o_) h_ := LEndP.mk (Hp := (fun (z_ : Int) => L15fg.H n g f10 z_)) (l := (fun (k_ : Nat) (z_ : Int) => L15fg.N g f10 k_ z_)) (oE := L15fg.E) (oT := L15fg.X n g f10) (oH := L15fg.XH n g f10) o_ h3 h4

theorem L15fg.spec (n : Nat) (g : Nat → LD) (hn : n ≤ 9223372036854775807) (hg : ∀ (i : Nat), (g i).nm.size ≤ 9223372036854775807) (k5_1 : decide ((↑n : Int) > 64) = false) (p5_1 : ¬(↑n : Int) > 64) (f10 : Int) (i15f_0 : 0 ≤ f10) (i15f_1 : f10 ≤ (↑n : Int) ∨ f10 ≤ 0) (k6_1 : decide (f10 < (↑n : Int)) = true) (p6_1 : f10 < (↑n : Int)) (k_ : Nat) (z_ : Int) (hi_ : L15fg.inv n g f10 z_) (hm_ : L15fg.mu n g f10 z_ < k_) : LoopTo Try.prog (loopN Try.f15 6) (L15fg.T n g f10 z_) (L15fg.H n g f10 z_) (L15fg.E (L15fg.N g f10 k_ z_)) (L15fg.X n g f10 (L15fg.N g f10 k_ z_)) (L15fg.XH n g f10 (L15fg.N g f10 k_ z_)) := by
  refine LoopTo.fuelP mix (fun (z_ : Int) => L15fg.T n g f10 z_) (fun (z_ : Int) => L15fg.H n g f10 z_) (fun (z_ : Int) => L15fg.inv n g f10 z_) (fun (z_ : Int) => L15fg.mu n g f10 z_) (fun (k_ : Nat) (z_ : Int) => L15fg.N g f10 k_ z_) L15fg.E (L15fg.X n g f10) (L15fg.XH n g f10) (others 151 [0, 10, 11]) (others 151 [4]) (others 151 [0, 10]) ?_ k_ z_ hi_ hm_
  clear hm_ hi_ z_ k_
  intro k_ z_ hinv hmu
  revert hinv hmu; revert z_; intro g11 hinv hmu
  have hinv : 0 ≤ g11 ∧ (g11 ≤ f10 ∨ g11 ≤ 0) := hinv
  have hmu : ((f10 - g11).toNat) < k_ + 1 := hmu
  cases h1 : decide (g11 < f10) with
  | true =>
    have h1p := of_decide_eq_true h1
    have o0 : (0 : Int) ≤ f10 := by first | assumption | omega | (exact hg _) | (exact hg _ (by omega)) | (simp_all; done)
    have o1 : f10 < (↑n : Int) := by first | assumption | omega | (exact hg _) | (exact hg _ (by omega)) | (simp_all; done)
    have o2 : (0 : Int) ≤ g11 := by first | assumption | omega | (exact hg _) | (exact hg _ (by omega)) | (simp_all; done)
    have o3 : g11 < (↑n : Int) := by first | assumption | omega | (exact hg _) | (exact hg _ (by omega)) | (simp_all; done)
    cases h2 : decide ((g f10.toNat).lo < IntKind.i64.wrap ((g g11.toNat).lo + (g g11.toNat).ln)) with
    | true =>
      have h2p := of_decide_eq_true h2
      cases h3 : decide ((g g11.toNat).lo < IntKind.i64.wrap ((g f10.toNat).lo + (g f10.toNat).ln)) with
      | true =>
        have h3p := of_decide_eq_true h3
        exact ⟨[.b true, .b true, .b true, .b true, .b true, .b true, .b true, .b true, .b true, .b true, .b true, .b true, .b true, .b true, .b true, .b true, .b true, .b true, .b true, .b true], kmp (by kernel_rfl) (And.intro h1 (And.intro (And.intro o0 o1) (And.intro (And.intro o2 o3) (And.intro (And.intro o2 o3) (And.intro h2 (And.intro h2 (And.intro h2 (And.intro (And.intro o2 o3) (And.intro h2 (And.intro h2 (And.intro h2 (And.intro h2 (And.intro h2 (And.intro (And.intro o0 o1) (And.intro h2 (And.intro h2 (And.intro h2 (And.intro h2 (And.intro h2 (And.intro (And.intro o0 o1) (And.intro h2 (And.intro h2 (And.intro h2 (And.intro h2 (And.intro h2 (And.intro h3 (L15fg.en n g f10 (k_ := k_) (z_ := g11) (.e0 : L15fg.O) (by first | (simp only [L15fg.N, h1, h2, h3, cond_true, cond_false]; done) | (try unfold L15fg.N; try simp only [h1, cond_true, cond_false]; try simp only [h2, cond_true, cond_false]; try simp only [h3, cond_true, cond_false]; try rfl; done)) PopOk.same)))))))))))))))))))))))))))⟩
      | false =>
        have h3p := of_decide_eq_false h3
        try have := IntWalk.i64_in (g11 + 1) (by omega)
        have o4 : (0 : Int) ≤ IntKind.i64.wrap (g11 + (1 : Int)) := by first | assumption | omega | (exact hg _) | (exact hg _ (by omega)) | (simp_all; done)
        have o5 : IntKind.i64.wrap (g11 + (1 : Int)) ≤ f10 ∨ IntKind.i64.wrap (g11 + (1 : Int)) ≤ (0 : Int) := by first | assumption | omega | (exact hg _) | (exact hg _ (by omega)) | (simp_all; done)
        have o6 : (f10 - IntKind.i64.wrap (g11 + (1 : Int))).toNat < (f10 - g11).toNat := by first | assumption | omega | (exact hg _) | (exact hg _ (by omega)) | (simp_all; done)
        exact ⟨[.b true, .b true, .b true, .b true, .b true, .b true, .b true, .b true, .b true, .b true, .b true, .b true, .b true, .b true, .b true, .b true, .b true, .b true, .b true, .b false], kmp (by kernel_rfl) (And.intro h1 (And.intro (And.intro o0 o1) (And.intro (And.intro o2 o3) (And.intro (And.intro o2 o3) (And.intro h2 (And.intro h2 (And.intro h2 (And.intro (And.intro o2 o3) (And.intro h2 (And.intro h2 (And.intro h2 (And.intro h2 (And.intro h2 (And.intro (And.intro o0 o1) (And.intro h2 (And.intro h2 (And.intro h2 (And.intro h2 (And.intro h2 (And.intro (And.intro o0 o1) (And.intro h2 (And.intro h2 (And.intro h2 (And.intro h2 (And.intro h2 (And.intro h3 (L15fg.nx n g f10 (k_ := k_) (z_ := g11) (IntKind.i64.wrap (g11 + 1)) (And.intro o4 o5) o6 (by first | (simp only [L15fg.N, h1, h2, h3, cond_true, cond_false]; done) | (try unfold L15fg.N; try simp only [h1, cond_true, cond_false]; try simp only [h2, cond_true, cond_false]; try simp only [h3, cond_true, cond_false]; try rfl; done)) PopOk.same)))))))))))))))))))))))))))⟩
    | false =>
      have h2p := of_decide_eq_false h2
      try have := IntWalk.i64_in (g11 + 1) (by omega)
      have o4 : (0 : Int) ≤ IntKind.i64.wrap (g11 + (1 : Int)) := by first | assumption | omega | (exact hg _) | (exact hg _ (by omega)) | (simp_all; done)
      have o5 : IntKind.i64.wrap (g11 + (1 : Int)) ≤ f10 ∨ IntKind.i64.wrap (g11 + (1 : Int)) ≤ (0 : Int) := by first | assumption | omega | (exact hg _) | (exact hg _ (by omega)) | (simp_all; done)
      have o6 : (f10 - IntKind.i64.wrap (g11 + (1 : Int))).toNat < (f10 - g11).toNat := by first | assumption | omega | (exact hg _) | (exact hg _ (by omega)) | (simp_all; done)
      exact ⟨[.b true, .b false, .b false, .b false, .b false, .b false, .b false, .b false, .b false, .b false, .b false, .b false, .b false, .b false, .b false, .b false, .b false, .b false, .b false, .b false], kmp (by kernel_rfl) (And.intro h1 (And.intro (And.intro o0 o1) (And.intro (And.intro o2 o3) (And.intro (And.intro o2 o3) (And.intro h2 (And.intro h2 (And.intro h2 (And.intro h2 (And.intro h2 (And.intro h2 (And.intro h2 (And.intro h2 (And.intro h2 (And.intro h2 (And.intro h2 (And.intro h2 (And.intro h2 (And.intro h2 (And.intro h2 (And.intro h2 (And.intro h2 (And.intro h2 (And.intro (rfl : false = false) (L15fg.nx n g f10 (k_ := k_) (z_ := g11) (IntKind.i64.wrap (g11 + 1)) (And.intro o4 o5) o6 (by first | (simp only [L15fg.N, h1, h2, cond_true, cond_false]; done) | (try unfold L15fg.N; try simp only [h1, cond_true, cond_false]; try simp only [h2, cond_true, cond_false]; try rfl; done)) PopOk.same))))))))))))))))))))))))⟩
  | false =>
    have h1p := of_decide_eq_false h1
    exact ⟨[.b false], kmp (by kernel_rfl) (And.intro h1 (L15fg.en n g f10 (k_ := k_) (z_ := g11) (.e1 : L15fg.O) (by first | (simp only [L15fg.N, h1, cond_true, cond_false]; done) | (try unfold L15fg.N; try simp only [h1, cond_true, cond_false]; try rfl; done)) PopOk.same))⟩

theorem L15fg.e0 (n : Nat) (g : Nat → LD) (hn : n ≤ 9223372036854775807) (hg : ∀ (i : Nat), (g i).nm.size ≤ 9223372036854775807) (k5_1 : decide ((↑n : Int) > 64) = false) (p5_1 : ¬(↑n : Int) > 64) (f10 : Int) (i15f_0 : 0 ≤ f10) (i15f_1 : f10 ≤ (↑n : Int) ∨ f10 ≤ 0) (k6_1 : decide (f10 < (↑n : Int)) = true) (p6_1 : f10 < (↑n : Int)) (g11 : Int) (hinv : L15fg.inv n g f10 g11) (hN : L15fg.run g f10 g11 = (.e0 : L15fg.O)) : LoopTo Try.prog (loopN Try.f15 6) (L15fg.T n g f10 g11) (L15fg.H n g f10 g11) (Exit.ret) (L15fg.X n g f10 (.e0 : L15fg.O)) (L15fg.XH n g f10 (.e0 : L15fg.O)) := by
  have h_ := L15fg.spec n g hn hg k5_1 p5_1 f10 i15f_0 i15f_1 k6_1 p6_1 (((f10 - g11).toNat) + 1) g11 hinv (Nat.lt_succ_self _)
  unfold L15fg.run at hN
  simp only [hN] at h_
  exact h_

theorem L15fg.e1 (n : Nat) (g : Nat → LD) (hn : n ≤ 9223372036854775807) (hg : ∀ (i : Nat), (g i).nm.size ≤ 9223372036854775807) (k5_1 : decide ((↑n : Int) > 64) = false) (p5_1 : ¬(↑n : Int) > 64) (f10 : Int) (i15f_0 : 0 ≤ f10) (i15f_1 : f10 ≤ (↑n : Int) ∨ f10 ≤ 0) (k6_1 : decide (f10 < (↑n : Int)) = true) (p6_1 : f10 < (↑n : Int)) (g11 : Int) (hinv : L15fg.inv n g f10 g11) (hN : L15fg.run g f10 g11 = (.e1 : L15fg.O)) : LoopTo Try.prog (loopN Try.f15 6) (L15fg.T n g f10 g11) (L15fg.H n g f10 g11) (Exit.exit 12) (L15fg.X n g f10 (.e1 : L15fg.O)) (L15fg.XH n g f10 (.e1 : L15fg.O)) := by
  have h_ := L15fg.spec n g hn hg k5_1 p5_1 f10 i15f_0 i15f_1 k6_1 p6_1 (((f10 - g11).toNat) + 1) g11 hinv (Nat.lt_succ_self _)
  unfold L15fg.run at hN
  simp only [hN] at h_
  exact h_

inductive L15f.O where
  | e0
  | e1

noncomputable def L15f.T (n : Nat) (g : Nat → LD) (f10 : Int) : List AV := mkT 151 [(0, AV.sl 4 n fun (i : Nat) => AV.agg [AV.str (g i).nm, AV.int IntKind.i64 (g i).lo, AV.int IntKind.i64 (g i).ln, AV.int IntKind.i64 (g i).ms]), (10, AV.int IntKind.i64 f10)]

noncomputable def L15f.H (n : Nat) (g : Nat → LD) (f10 : Int) : AHeap := []

def L15f.inv (n : Nat) (g : Nat → LD) (f10 : Int) : Prop := 0 ≤ f10 ∧ (f10 ≤ (↑n : Int) ∨ f10 ≤ 0)

noncomputable def L15f.mu (n : Nat) (g : Nat → LD) (f10 : Int) : Nat := ((↑n : Int) - f10).toNat

noncomputable def L15f.E : L15f.O → Exit
  | .e0 => Exit.ret
  | .e1 => Exit.exit 10

noncomputable def L15f.X (n : Nat) (g : Nat → LD) : L15f.O → List AV
  | .e0 => mkT 151 [(4, (AV.int IntKind.i64 11))]
  | .e1 => mkT 151 []

noncomputable def L15f.XH (n : Nat) (g : Nat → LD) : L15f.O → AHeap
  | .e0 => ([])
  | .e1 => ([])

noncomputable def L15f.N (n : Nat) (g : Nat → LD) : Nat → Int → L15f.O
  | 0, _ => .e0
  | k_ + 1, f10 => (bif decide (f10 < (↑n : Int)) then (match L15fg.run g f10 0 with | .e0 => (.e0) | .e1 => (L15f.N n g k_ (IntKind.i64.wrap (f10 + 1))) ) else (.e1))

noncomputable def L15f.run (n : Nat) (g : Nat → LD) (f10 : Int) : L15f.O := L15f.N n g ((((↑n : Int) - f10).toNat) + 1) f10

theorem L15f.nx (n : Nat) (g : Nat → LD) {k_ : Nat} {z_ : Int} {h_ : AHeap} (s_ : Int) (h1 : L15f.inv n g s_) (h2 : L15f.mu n g s_ < L15f.mu n g z_) (h3 : L15f.N n g k_ s_ = L15f.N n g (k_ + 1) z_) (h4 : PopOk (L15f.H n g z_) h_ (L15f.T n g s_) (L15f.H n g s_)) : LNextP (fun (z_ : Int) => L15f.T n g z_) (fun (z_ : Int) => L15f.H n g z_) (fun (z_ : Int) => L15f.inv n g z_) (fun (z_ : Int) => L15f.mu n g z_) (fun (k_ : Nat) (z_ : Int) => L15f.N n g k_ z_) k_ z_ (L15f.T n g s_) h_ := LNextP.mk (Tm := (fun (z_ : Int) => L15f.T n g z_)) (Hp := (fun (z_ : Int) => L15f.H n g z_)) (inv := (fun (z_ : Int) => L15f.inv n g z_)) (mu := (fun (z_ : Int) => L15f.mu n g z_)) (l := (fun (k_ : Nat) (z_ : Int) => L15f.N n g k_ z_)) s_ h1 h2 h3 h4

theorem L15f.en (n : Nat) (g : Nat → LD) {k_ : Nat} {z_ : Int} {h_ : AHeap} (o_ : L15f.O) (h3 : L15f.N n g (k_ + 1) z_ = o_) (h4 : PopOk (L15f.H n g z_) h_ (L15f.X n g o_) (L15f.XH n g o_)) : LEndP (fun (z_ : Int) => L15f.H n g z_) (fun (k_ : Nat) (z_ : Int) => L15f.N n g k_ z_) L15f.E (L15f.X n g) (L15f.XH n g) k_ z_ (L15f.E o_) (L15f.X n g o_) h_ := LEndP.mk (Hp := (fun (z_ : Int) => L15f.H n g z_)) (l := (fun (k_ : Nat) (z_ : Int) => L15f.N n g k_ z_)) (oE := L15f.E) (oT := L15f.X n g) (oH := L15f.XH n g) o_ h3 h4

theorem L15f.spec (n : Nat) (g : Nat → LD) (hn : n ≤ 9223372036854775807) (hg : ∀ (i : Nat), (g i).nm.size ≤ 9223372036854775807) (k5_1 : decide ((↑n : Int) > 64) = false) (p5_1 : ¬(↑n : Int) > 64) (k_ : Nat) (z_ : Int) (hi_ : L15f.inv n g z_) (hm_ : L15f.mu n g z_ < k_) : LoopTo Try.prog (loopN Try.f15 5) (L15f.T n g z_) (L15f.H n g z_) (L15f.E (L15f.N n g k_ z_)) (L15f.X n g (L15f.N n g k_ z_)) (L15f.XH n g (L15f.N n g k_ z_)) := by
  refine LoopTo.fuelP mix (fun (z_ : Int) => L15f.T n g z_) (fun (z_ : Int) => L15f.H n g z_) (fun (z_ : Int) => L15f.inv n g z_) (fun (z_ : Int) => L15f.mu n g z_) (fun (k_ : Nat) (z_ : Int) => L15f.N n g k_ z_) L15f.E (L15f.X n g) (L15f.XH n g) (others 151 [0, 10]) (others 151 [4]) (others 151 []) ?_ k_ z_ hi_ hm_
  clear hm_ hi_ z_ k_
  intro k_ z_ hinv hmu
  revert hinv hmu; revert z_; intro f10 hinv hmu
  have hinv : 0 ≤ f10 ∧ (f10 ≤ (↑n : Int) ∨ f10 ≤ 0) := hinv
  have hmu : (((↑n : Int) - f10).toNat) < k_ + 1 := hmu
  cases h1 : decide (f10 < (↑n : Int)) with
  | true =>
    have h1p := of_decide_eq_true h1
    have o0 : n ≤ (9223372036854775807 : Nat) := by first | assumption | omega | (exact hg _) | (exact hg _ (by omega)) | (simp_all; done)
    have o1 : ∀ (i : Nat), (g i).nm.size ≤ (9223372036854775807 : Nat) := by first | assumption | omega | (exact hg _) | (exact hg _ (by omega)) | (simp_all; done)
    have o2 : decide ((↑n : Int) > (64 : Int)) = false := by first | assumption | omega | (exact hg _) | (exact hg _ (by omega)) | (simp_all; done)
    have o3 : ¬(↑n : Int) > (64 : Int) := by first | assumption | (exact hg _) | (exact hg _ (by omega)) | (simp_all; done)
    have o4 : (0 : Int) ≤ f10 := by first | assumption | omega | (exact hg _) | (exact hg _ (by omega)) | (simp_all; done)
    have o5 : f10 ≤ (↑n : Int) ∨ f10 ≤ (0 : Int) := by first | assumption | omega | (exact hg _) | (exact hg _ (by omega)) | (simp_all; done)
    have o6 : decide (f10 < (↑n : Int)) = true := by first | assumption | omega | (exact hg _) | (exact hg _ (by omega)) | (simp_all; done)
    have o7 : f10 < (↑n : Int) := by first | assumption | omega | (exact hg _) | (exact hg _ (by omega)) | (simp_all; done)
    have o8 : (0 : Int) ≤ f10 ∨ (0 : Int) ≤ (0 : Int) := by first | assumption | omega | (exact hg _) | (exact hg _ (by omega)) | (simp_all; done)
    cases h2 : L15fg.run g f10 0 with
    | e0 =>
      exact ⟨[.b true, .loop (others 151 [0, 10, 11]) (Exit.ret) (L15fg.X n g f10 L15fg.O.e0) (L15fg.XH n g f10 L15fg.O.e0)], kmp (by kernel_rfl) (And.intro h1 (And.intro (L15fg.e0 (n) (g) o0 o1 o2 o3 (f10) o4 o5 o6 o7 (0) (And.intro (show (0 : Int) ≤ (0 : Int) by first | decide | exact Int.NonNeg.mk _) o8) h2) (L15f.en n g (k_ := k_) (z_ := f10) (.e0 : L15f.O) (by first | (simp only [L15f.N, h1, h2, cond_true, cond_false]; done) | (try unfold L15f.N; try simp only [h1, cond_true, cond_false]; try simp only [h2, cond_true, cond_false]; try rfl; done)) PopOk.same)))⟩
    | e1 =>
      try have := IntWalk.i64_in (f10 + 1) (by omega)
      have o9 : (0 : Int) ≤ IntKind.i64.wrap (f10 + (1 : Int)) := by first | assumption | omega | (exact hg _) | (exact hg _ (by omega)) | (simp_all; done)
      have o10 : IntKind.i64.wrap (f10 + (1 : Int)) ≤ (↑n : Int) ∨ IntKind.i64.wrap (f10 + (1 : Int)) ≤ (0 : Int) := by first | assumption | omega | (exact hg _) | (exact hg _ (by omega)) | (simp_all; done)
      have o11 : ((↑n : Int) - IntKind.i64.wrap (f10 + (1 : Int))).toNat < ((↑n : Int) - f10).toNat := by first | assumption | omega | (exact hg _) | (exact hg _ (by omega)) | (simp_all; done)
      exact ⟨[.b true, .loop (others 151 [0, 10, 11]) (Exit.exit 12) (L15fg.X n g f10 L15fg.O.e1) (L15fg.XH n g f10 L15fg.O.e1)], kmp (by kernel_rfl) (And.intro h1 (And.intro (L15fg.e1 (n) (g) o0 o1 o2 o3 (f10) o4 o5 o6 o7 (0) (And.intro (show (0 : Int) ≤ (0 : Int) by first | decide | exact Int.NonNeg.mk _) o8) h2) (L15f.nx n g (k_ := k_) (z_ := f10) (IntKind.i64.wrap (f10 + 1)) (And.intro o9 o10) o11 (by first | (simp only [L15f.N, h1, h2, cond_true, cond_false]; done) | (try unfold L15f.N; try simp only [h1, cond_true, cond_false]; try simp only [h2, cond_true, cond_false]; try rfl; done)) PopOk.same)))⟩
  | false =>
    have h1p := of_decide_eq_false h1
    exact ⟨[.b false], kmp (by kernel_rfl) (And.intro h1 (L15f.en n g (k_ := k_) (z_ := f10) (.e1 : L15f.O) (by first | (simp only [L15f.N, h1, cond_true, cond_false]; done) | (try unfold L15f.N; try simp only [h1, cond_true, cond_false]; try rfl; done)) PopOk.same))⟩

theorem L15f.e0 (n : Nat) (g : Nat → LD) (hn : n ≤ 9223372036854775807) (hg : ∀ (i : Nat), (g i).nm.size ≤ 9223372036854775807) (k5_1 : decide ((↑n : Int) > 64) = false) (p5_1 : ¬(↑n : Int) > 64) (f10 : Int) (hinv : L15f.inv n g f10) (hN : L15f.run n g f10 = (.e0 : L15f.O)) : LoopTo Try.prog (loopN Try.f15 5) (L15f.T n g f10) (L15f.H n g f10) (Exit.ret) (L15f.X n g (.e0 : L15f.O)) (L15f.XH n g (.e0 : L15f.O)) := by
  have h_ := L15f.spec n g hn hg k5_1 p5_1 ((((↑n : Int) - f10).toNat) + 1) f10 hinv (Nat.lt_succ_self _)
  unfold L15f.run at hN
  simp only [hN] at h_
  exact h_

theorem L15f.e1 (n : Nat) (g : Nat → LD) (hn : n ≤ 9223372036854775807) (hg : ∀ (i : Nat), (g i).nm.size ≤ 9223372036854775807) (k5_1 : decide ((↑n : Int) > 64) = false) (p5_1 : ¬(↑n : Int) > 64) (f10 : Int) (hinv : L15f.inv n g f10) (hN : L15f.run n g f10 = (.e1 : L15f.O)) : LoopTo Try.prog (loopN Try.f15 5) (L15f.T n g f10) (L15f.H n g f10) (Exit.exit 10) (L15f.X n g (.e1 : L15f.O)) (L15f.XH n g (.e1 : L15f.O)) := by
  have h_ := L15f.spec n g hn hg k5_1 p5_1 ((((↑n : Int) - f10).toNat) + 1) f10 hinv (Nat.lt_succ_self _)
  unfold L15f.run at hN
  simp only [hN] at h_
  exact h_

noncomputable def r15.v (n : Nat) (g : Nat → LD) (e : Int) : Int := (bif decide ((↑n : Int) > 64) then 7 else (match L15a.run n g 0 with | .e0 => 4 | .e1 => (match L15b.run n g 0 with | .e0 => 6 | .e1 => (match L15c.run n g 0 with | .e0 => 5 | .e1 => (match L15e.run n g e 0 with | .e0 => 12 | .e1 => (match L15f.run n g 0 with | .e0 => 11 | .e1 => 0 ) ) ) ) ))

theorem r15 (n : Nat) (g : Nat → LD) (hn : n ≤ 9223372036854775807) (hg : ∀ (i : Nat), (g i).nm.size ≤ 9223372036854775807) (e : Int) (h : AHeap) : Ret Try.prog 15 ([lds n g, AV.int IntKind.i64 e]) h (AV.int IntKind.i64 (r15.v n g e)) h := by
  cases h1 : decide ((↑n : Int) > 64) with
  | true =>
    have h1p := of_decide_eq_true h1
    exact Ret.of_run1 mix [(AV.int IntKind.i64 (r15.v n g e))] Try.func15 rfl [.b true] (by simp) (by simp) (kmp (by kernel_rfl) (And.intro h1 (And.intro (show (AV.int IntKind.i64 7) = ((AV.int IntKind.i64 (r15.v n g e))) by first | (simp only [r15.v, h1, cond_true, cond_false]; done) | (try unfold r15.v; try simp only [h1, cond_true, cond_false]; try rfl; done) | rfl) trivial))) h
  | false =>
    have h1p := of_decide_eq_false h1
    have o0 : n ≤ (9223372036854775807 : Nat) := by first | assumption | omega | (exact hg _) | (exact hg _ (by omega)) | (simp_all; done)
    have o1 : ∀ (i : Nat), (g i).nm.size ≤ (9223372036854775807 : Nat) := by first | assumption | omega | (exact hg _) | (exact hg _ (by omega)) | (simp_all; done)
    have o2 : decide ((↑n : Int) > (64 : Int)) = false := by first | assumption | omega | (exact hg _) | (exact hg _ (by omega)) | (simp_all; done)
    have o3 : ¬(↑n : Int) > (64 : Int) := by first | assumption | (exact hg _) | (exact hg _ (by omega)) | (simp_all; done)
    have o4 : (0 : Int) ≤ (↑n : Int) ∨ (0 : Int) ≤ (0 : Int) := by first | assumption | omega | (exact hg _) | (exact hg _ (by omega)) | (simp_all; done)
    cases h2 : L15a.run n g 0 with
    | e0 =>
      exact Ret.of_run1 mix [(AV.int IntKind.i64 (r15.v n g e))] Try.func15 rfl [.b false, .loop (others 151 [0, 1, 5]) (Exit.ret) (L15a.X n g e L15a.O.e0) (L15a.XH n g e L15a.O.e0)] (by simp) (by simp) (kmp (by kernel_rfl) (And.intro h1 (And.intro (L15a.e0 (n) (g) o0 o1 (e) o2 o3 (0) (And.intro (show (0 : Int) ≤ (0 : Int) by first | decide | exact Int.NonNeg.mk _) o4) h2) (And.intro (show (AV.int IntKind.i64 4) = ((AV.int IntKind.i64 (r15.v n g e))) by first | (simp only [r15.v, h1, h2, cond_true, cond_false]; done) | (try unfold r15.v; try simp only [h1, cond_true, cond_false]; try simp only [h2, cond_true, cond_false]; try rfl; done) | rfl) trivial)))) h
    | e1 =>
      cases h3 : L15b.run n g 0 with
      | e0 =>
        exact Ret.of_run1 mix [(AV.int IntKind.i64 (r15.v n g e))] Try.func15 rfl [.b false, .loop (others 151 [0, 1, 5]) (Exit.exit 0) (L15a.X n g e L15a.O.e1) (L15a.XH n g e L15a.O.e1), .loop (others 151 [0, 1, 6]) (Exit.ret) (L15b.X n g e L15b.O.e0) (L15b.XH n g e L15b.O.e0)] (by simp) (by simp) (kmp (by kernel_rfl) (And.intro h1 (And.intro (L15a.e1 (n) (g) o0 o1 (e) o2 o3 (0) (And.intro (show (0 : Int) ≤ (0 : Int) by first | decide | exact Int.NonNeg.mk _) o4) h2) (And.intro (L15b.e0 (n) (g) o0 o1 (e) o2 o3 (0) (And.intro (show (0 : Int) ≤ (0 : Int) by first | decide | exact Int.NonNeg.mk _) o4) h3) (And.intro (show (AV.int IntKind.i64 6) = ((AV.int IntKind.i64 (r15.v n g e))) by first | (simp only [r15.v, h1, h2, h3, cond_true, cond_false]; done) | (try unfold r15.v; try simp only [h1, cond_true, cond_false]; try simp only [h2, cond_true, cond_false]; try simp only [h3, cond_true, cond_false]; try rfl; done) | rfl) trivial))))) h
      | e1 =>
        cases h4 : L15c.run n g 0 with
        | e0 =>
          exact Ret.of_run1 mix [(AV.int IntKind.i64 (r15.v n g e))] Try.func15 rfl [.b false, .loop (others 151 [0, 1, 5]) (Exit.exit 0) (L15a.X n g e L15a.O.e1) (L15a.XH n g e L15a.O.e1), .loop (others 151 [0, 1, 6]) (Exit.exit 2) (L15b.X n g e L15b.O.e1) (L15b.XH n g e L15b.O.e1), .loop (others 151 [0, 1, 7]) (Exit.ret) (L15c.X n g e L15c.O.e0) (L15c.XH n g e L15c.O.e0)] (by simp) (by simp) (kmp (by kernel_rfl) (And.intro h1 (And.intro (L15a.e1 (n) (g) o0 o1 (e) o2 o3 (0) (And.intro (show (0 : Int) ≤ (0 : Int) by first | decide | exact Int.NonNeg.mk _) o4) h2) (And.intro (L15b.e1 (n) (g) o0 o1 (e) o2 o3 (0) (And.intro (show (0 : Int) ≤ (0 : Int) by first | decide | exact Int.NonNeg.mk _) o4) h3) (And.intro (L15c.e0 (n) (g) o0 o1 (e) o2 o3 (0) (And.intro (show (0 : Int) ≤ (0 : Int) by first | decide | exact Int.NonNeg.mk _) o4) h4) (And.intro (show (AV.int IntKind.i64 5) = ((AV.int IntKind.i64 (r15.v n g e))) by first | (simp only [r15.v, h1, h2, h3, h4, cond_true, cond_false]; done) | (try unfold r15.v; try simp only [h1, cond_true, cond_false]; try simp only [h2, cond_true, cond_false]; try simp only [h3, cond_true, cond_false]; try simp only [h4, cond_true, cond_false]; try rfl; done) | rfl) trivial)))))) h
        | e1 =>
          cases h5 : L15e.run n g e 0 with
          | e0 =>
            exact Ret.of_run1 mix [(AV.int IntKind.i64 (r15.v n g e))] Try.func15 rfl [.b false, .loop (others 151 [0, 1, 5]) (Exit.exit 0) (L15a.X n g e L15a.O.e1) (L15a.XH n g e L15a.O.e1), .loop (others 151 [0, 1, 6]) (Exit.exit 2) (L15b.X n g e L15b.O.e1) (L15b.XH n g e L15b.O.e1), .loop (others 151 [0, 1, 7]) (Exit.exit 4) (L15c.X n g e L15c.O.e1) (L15c.XH n g e L15c.O.e1), .loop (others 151 [0, 1, 9]) (Exit.ret) (L15e.X n g e L15e.O.e0) (L15e.XH n g e L15e.O.e0)] (by simp) (by simp) (kmp (by kernel_rfl) (And.intro h1 (And.intro (L15a.e1 (n) (g) o0 o1 (e) o2 o3 (0) (And.intro (show (0 : Int) ≤ (0 : Int) by first | decide | exact Int.NonNeg.mk _) o4) h2) (And.intro (L15b.e1 (n) (g) o0 o1 (e) o2 o3 (0) (And.intro (show (0 : Int) ≤ (0 : Int) by first | decide | exact Int.NonNeg.mk _) o4) h3) (And.intro (L15c.e1 (n) (g) o0 o1 (e) o2 o3 (0) (And.intro (show (0 : Int) ≤ (0 : Int) by first | decide | exact Int.NonNeg.mk _) o4) h4) (And.intro (L15e.e0 (n) (g) o0 o1 (e) o2 o3 (0) (And.intro (show (0 : Int) ≤ (0 : Int) by first | decide | exact Int.NonNeg.mk _) o4) h5) (And.intro (show (AV.int IntKind.i64 12) = ((AV.int IntKind.i64 (r15.v n g e))) by first | (simp only [r15.v, h1, h2, h3, h4, h5, cond_true, cond_false]; done) | (try unfold r15.v; try simp only [h1, cond_true, cond_false]; try simp only [h2, cond_true, cond_false]; try simp only [h3, cond_true, cond_false]; try simp only [h4, cond_true, cond_false]; try simp only [h5, cond_true, cond_false]; try rfl; done) | rfl) trivial))))))) h
          | e1 =>
            cases h6 : L15f.run n g 0 with
            | e0 =>
              exact Ret.of_run1 mix [(AV.int IntKind.i64 (r15.v n g e))] Try.func15 rfl [.b false, .loop (others 151 [0, 1, 5]) (Exit.exit 0) (L15a.X n g e L15a.O.e1) (L15a.XH n g e L15a.O.e1), .loop (others 151 [0, 1, 6]) (Exit.exit 2) (L15b.X n g e L15b.O.e1) (L15b.XH n g e L15b.O.e1), .loop (others 151 [0, 1, 7]) (Exit.exit 4) (L15c.X n g e L15c.O.e1) (L15c.XH n g e L15c.O.e1), .loop (others 151 [0, 1, 9]) (Exit.exit 8) (L15e.X n g e L15e.O.e1) (L15e.XH n g e L15e.O.e1), .loop (others 151 [0, 10]) (Exit.ret) (L15f.X n g L15f.O.e0) (L15f.XH n g L15f.O.e0)] (by simp) (by simp) (kmp (by kernel_rfl) (And.intro h1 (And.intro (L15a.e1 (n) (g) o0 o1 (e) o2 o3 (0) (And.intro (show (0 : Int) ≤ (0 : Int) by first | decide | exact Int.NonNeg.mk _) o4) h2) (And.intro (L15b.e1 (n) (g) o0 o1 (e) o2 o3 (0) (And.intro (show (0 : Int) ≤ (0 : Int) by first | decide | exact Int.NonNeg.mk _) o4) h3) (And.intro (L15c.e1 (n) (g) o0 o1 (e) o2 o3 (0) (And.intro (show (0 : Int) ≤ (0 : Int) by first | decide | exact Int.NonNeg.mk _) o4) h4) (And.intro (L15e.e1 (n) (g) o0 o1 (e) o2 o3 (0) (And.intro (show (0 : Int) ≤ (0 : Int) by first | decide | exact Int.NonNeg.mk _) o4) h5) (And.intro (L15f.e0 (n) (g) o0 o1 o2 o3 (0) (And.intro (show (0 : Int) ≤ (0 : Int) by first | decide | exact Int.NonNeg.mk _) o4) h6) (And.intro (show (AV.int IntKind.i64 11) = ((AV.int IntKind.i64 (r15.v n g e))) by first | (simp only [r15.v, h1, h2, h3, h4, h5, h6, cond_true, cond_false]; done) | (try unfold r15.v; try simp only [h1, cond_true, cond_false]; try simp only [h2, cond_true, cond_false]; try simp only [h3, cond_true, cond_false]; try simp only [h4, cond_true, cond_false]; try simp only [h5, cond_true, cond_false]; try simp only [h6, cond_true, cond_false]; try rfl; done) | rfl) trivial)))))))) h
            | e1 =>
              exact Ret.of_run1 mix [(AV.int IntKind.i64 (r15.v n g e))] Try.func15 rfl [.b false, .loop (others 151 [0, 1, 5]) (Exit.exit 0) (L15a.X n g e L15a.O.e1) (L15a.XH n g e L15a.O.e1), .loop (others 151 [0, 1, 6]) (Exit.exit 2) (L15b.X n g e L15b.O.e1) (L15b.XH n g e L15b.O.e1), .loop (others 151 [0, 1, 7]) (Exit.exit 4) (L15c.X n g e L15c.O.e1) (L15c.XH n g e L15c.O.e1), .loop (others 151 [0, 1, 9]) (Exit.exit 8) (L15e.X n g e L15e.O.e1) (L15e.XH n g e L15e.O.e1), .loop (others 151 [0, 10]) (Exit.exit 10) (L15f.X n g L15f.O.e1) (L15f.XH n g L15f.O.e1)] (by simp) (by simp) (kmp (by kernel_rfl) (And.intro h1 (And.intro (L15a.e1 (n) (g) o0 o1 (e) o2 o3 (0) (And.intro (show (0 : Int) ≤ (0 : Int) by first | decide | exact Int.NonNeg.mk _) o4) h2) (And.intro (L15b.e1 (n) (g) o0 o1 (e) o2 o3 (0) (And.intro (show (0 : Int) ≤ (0 : Int) by first | decide | exact Int.NonNeg.mk _) o4) h3) (And.intro (L15c.e1 (n) (g) o0 o1 (e) o2 o3 (0) (And.intro (show (0 : Int) ≤ (0 : Int) by first | decide | exact Int.NonNeg.mk _) o4) h4) (And.intro (L15e.e1 (n) (g) o0 o1 (e) o2 o3 (0) (And.intro (show (0 : Int) ≤ (0 : Int) by first | decide | exact Int.NonNeg.mk _) o4) h5) (And.intro (L15f.e1 (n) (g) o0 o1 o2 o3 (0) (And.intro (show (0 : Int) ≤ (0 : Int) by first | decide | exact Int.NonNeg.mk _) o4) h6) (And.intro (show (AV.int IntKind.i64 0) = ((AV.int IntKind.i64 (r15.v n g e))) by first | (simp only [r15.v, h1, h2, h3, h4, h5, h6, cond_true, cond_false]; done) | (try unfold r15.v; try simp only [h1, cond_true, cond_false]; try simp only [h2, cond_true, cond_false]; try simp only [h3, cond_true, cond_false]; try simp only [h4, cond_true, cond_false]; try simp only [h5, cond_true, cond_false]; try simp only [h6, cond_true, cond_false]; try rfl; done) | rfl) trivial)))))))) h

end Go.Proofs.Ytngpbfocjgikaaa

open Go

namespace Go.Proofs.Ytngpbfocjgikaaa

set_option linter.unusedSimpArgs false

set_option linter.unusedVariables false

set_option maxHeartbeats 0

set_option maxRecDepth 100000

theorem r51n (h : AHeap) : Ret Try.prog 51 ([AV.nils]) h AV.snil h := by
  exact Ret.of_run1 mix [AV.snil] Try.func51 rfl [.b true] (by simp) (by simp) (kmp (by kernel_rfl) (And.intro (rfl : true = true) (And.intro (show (AV.snil) = (AV.snil) by first | (simp only [cond_true, cond_false]; done) | (try rfl; done) | rfl) trivial))) h

theorem r51e (h : AHeap) : Ret Try.prog 51 ([AV.sne]) h AV.snil h := by
  exact Ret.of_run1 mix [AV.snil] Try.func51 rfl [.b false, .app .none false] (by simp) (by simp) (kmp (by kernel_rfl) (And.intro (rfl : false = false) (And.intro (show (0 : Nat) = (0 : Nat) by first | decide | exact Int.NonNeg.mk _) (And.intro (show (AV.snil) = (AV.snil) by first | (simp only [cond_true, cond_false]; done) | (try rfl; done) | rfl) trivial)))) h

end Go.Proofs.Ytngpbfocjgikaaa

open Go

namespace Go.Proofs.Ytngpbfocjgikaaa

set_option maxHeartbeats 0

set_option maxRecDepth 100000

theorem c51 (n : Nat) (g : Nat → LD) (hn : n ≤ 1000) (h : AHeap) : Ret Try.prog 51 [lds n g] h (AV.ms h.length n 4 0 n) (h ++ [AObj.row 4 n (.gen n fun i => (g i).av)]) := by
  rcases Nat.eq_zero_or_pos n with rfl | h0
  · exact Ret.snil_row 4 (.gen 0 fun i => (g i).av) rfl (Ret.of_sl0 4 _ (r51n h) (r51e h))
  · have o0 : (1 : Nat) ≤ n := h0
    have o1 : n * (40 : Nat) ≤ (140737488355328 : Nat) := by omega
    exact Ret.of_runC mix 0 n 4 (.gen n fun i => (g i).av) Try.func51 rfl [.b false, .app .many false] (by simp [lds, LD.av]) (fun j hj => by simp [Col.get, LD.av]) (kmp (by kernel_rfl) (And.intro o0 (And.intro (rfl : false = false) (And.intro (And.intro (show (4 : Nat) = (4 : Nat) from rfl) (And.intro (show AppMode.many.needs n fun (i : Nat) => (g i).av from fun i hi => rfl) o1)) (And.intro (rfl : [AV.ms 0 n 4 0 n] = [AV.ms 0 n 4 0 n]) (rfl : some (AObj.row 4 n (.gen n fun i => (g i).av)) = some (AObj.row 4 n (.gen n fun i => (g i).av))))))) ) h

theorem i64_small {x : Int} (h : -9223372036854775808 ≤ x ∧ x ≤ 9223372036854775807) : IntKind.i64.wrap x = x := IntWalk.i64_in x (by omega)

theorem n12 {n : Nat} (hn : n ≤ 12) : decide (IntKind.i64.wrap ((n : Int) - 0) ≤ 12) = true := by
  rw [i64_small (by omega)]
  exact decide_eq_true (by omega)

theorem q97 {x c : Int} (h : x ≤ 12) (hc : 12 < c) : decide (x ≥ c) = false := decide_eq_false (by omega)

end Go.Proofs.Ytngpbfocjgikaaa
