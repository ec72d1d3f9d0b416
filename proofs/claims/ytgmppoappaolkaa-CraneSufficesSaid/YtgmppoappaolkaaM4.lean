/- CraneSuffices: whatever the input, the law hands back true. Conditions: none. -/
import Derived.Test.YtgmppoappaolkaaM3

open Go

namespace Go.Proofs.Ytgmppoappaolkaa

set_option linter.unusedSimpArgs false

set_option linter.unusedVariables false

set_option maxHeartbeats 0

set_option maxRecDepth 100000

inductive L8j.O where
  | e0 (a0 : Int) (a1 : Int)

noncomputable def L8j.T (n : Nat) (g : Nat → SD) (nb : Nat) (gb : Nat → BD) (m : Int) (C : List Int) (M : List ByteArray) (at12 : Int) (ii : Int) (AL : List Bool) (kk : Int) (so14 : Bool) (li18 : Bool) (c15 : Int) (c16 : Int) (c20 : Int) : List AV := mkT 198 [(0, sts n g), (1, blks nb gb), (2, AV.int IntKind.i64 m), (7, AV.sl 1 C.length fun (a : Nat) => AV.int IntKind.i64 (C.getD a 0)), (9, AV.sl 1 M.length fun (a : Nat) => AV.str (M.getD a ByteArray.empty)), (11, AV.ms 0 n 1 0 n), (12, AV.int IntKind.i64 at12), (13, AV.int IntKind.i64 ii), (14, AV.bool so14), (15, AV.int IntKind.i64 c15), (16, AV.int IntKind.i64 c16), (17, AV.int IntKind.i64 kk), (18, AV.bool li18), (20, AV.int IntKind.i64 c20)]

noncomputable def L8j.H (n : Nat) (g : Nat → SD) (nb : Nat) (gb : Nat → BD) (m : Int) (C : List Int) (M : List ByteArray) (at12 : Int) (ii : Int) (AL : List Bool) (kk : Int) (so14 : Bool) (li18 : Bool) (c15 : Int) (c16 : Int) (c20 : Int) : AHeap := [AObj.row 1 n (Col.bools AL)]

def L8j.inv (n : Nat) (g : Nat → SD) (nb : Nat) (gb : Nat → BD) (m : Int) (C : List Int) (M : List ByteArray) (at12 : Int) (ii : Int) (AL : List Bool) (kk : Int) (so14 : Bool) (li18 : Bool) (c15 : Int) (c16 : Int) (c20 : Int) : Prop := 0 ≤ c20 ∧ c20 ≤ (↑C.length : Int)

noncomputable def L8j.mu (n : Nat) (g : Nat → SD) (nb : Nat) (gb : Nat → BD) (m : Int) (C : List Int) (M : List ByteArray) (at12 : Int) (ii : Int) (AL : List Bool) (kk : Int) (so14 : Bool) (li18 : Bool) (c15 : Int) (c16 : Int) (c20 : Int) : Nat := ((↑C.length : Int) - c20).toNat

noncomputable def L8j.E : L8j.O → Exit
  | .e0 a0 a1 => Exit.exit 4

noncomputable def L8j.X (n : Nat) (g : Nat → SD) (nb : Nat) (gb : Nat → BD) (m : Int) (C : List Int) (M : List ByteArray) (at12 : Int) (ii : Int) (AL : List Bool) (kk : Int) (so14 : Bool) (li18 : Bool) : L8j.O → List AV
  | .e0 a0 a1 => mkT 198 [(0, (AV.sl 5 n fun (i : Nat) => AV.agg [AV.str (g i).nm, AV.int IntKind.i64 (g i).x, AV.int IntKind.i64 (g i).y, AV.sl 1 (g i).nr fun (i_1 : Nat) => AV.int IntKind.i64 ((g i).r i_1), AV.sl 1 (g i).nl fun (i_1 : Nat) => AV.int IntKind.i64 ((g i).l i_1)])), (1, (AV.sl 7 nb fun (i : Nat) => AV.agg [AV.str (gb i).nm, AV.int IntKind.i64 (gb i).a, AV.int IntKind.i64 (gb i).b, AV.int IntKind.i64 (gb i).c, AV.int IntKind.i64 (gb i).d, AV.int IntKind.i64 (gb i).e, AV.int IntKind.i64 (gb i).f])), (2, (AV.int IntKind.i64 m)), (7, (AV.sl 1 C.length fun (a : Nat) => AV.int IntKind.i64 (C.getD a 0))), (9, (AV.sl 1 M.length fun (a : Nat) => AV.str (M.getD a ByteArray.empty))), (11, (AV.ms 0 n 1 0 n)), (12, (AV.int IntKind.i64 at12)), (13, (AV.int IntKind.i64 ii)), (14, (AV.bool so14)), (15, (AV.int IntKind.i64 a0)), (16, (AV.int IntKind.i64 a1)), (17, (AV.int IntKind.i64 kk))]

noncomputable def L8j.XH (n : Nat) (g : Nat → SD) (nb : Nat) (gb : Nat → BD) (m : Int) (C : List Int) (M : List ByteArray) (at12 : Int) (ii : Int) (AL : List Bool) (kk : Int) (so14 : Bool) (li18 : Bool) : L8j.O → AHeap
  | .e0 a0 a1 => ([AObj.row 1 n (Col.bools AL)])

noncomputable def L8j.N (C : List Int) (kk : Int) (li18 : Bool) : Nat → Int → Int → Int → L8j.O
  | 0, c15, c16, _ => .e0 c15 c16
  | k_ + 1, c15, c16, c20 => (bif decide (c20 < (↑C.length : Int)) then (bif C.getD c20.toNat 0 == kk then (bif li18 then (L8j.N C kk li18 k_ (IntKind.i64.wrap (c15 + 1)) (kk) (IntKind.i64.wrap (c20 + 1))) else (L8j.N C kk li18 k_ (c15) (c16) (IntKind.i64.wrap (c20 + 1)))) else (L8j.N C kk li18 k_ (c15) (c16) (IntKind.i64.wrap (c20 + 1)))) else (.e0 (c15) (c16)))

noncomputable def L8j.run (C : List Int) (kk : Int) (li18 : Bool) (c15 : Int) (c16 : Int) (c20 : Int) : L8j.O := L8j.N C kk li18 ((((↑C.length : Int) - c20).toNat) + 1) c15 c16 c20

theorem L8j.nx (n : Nat) (g : Nat → SD) (nb : Nat) (gb : Nat → BD) (m : Int) (C : List Int) (M : List ByteArray) (at12 : Int) (ii : Int) (AL : List Bool) (kk : Int) (so14 : Bool) (li18 : Bool) {k_ : Nat} {z_ : Int × Int × Int} {h_ : AHeap} (s_ : Int × Int × Int) (h1 : L8j.inv n g nb gb m C M at12 ii AL kk so14 li18 s_.1 s_.2.1 s_.2.2) (h2 : L8j.mu n g nb gb m C M at12 ii AL kk so14 li18 s_.1 s_.2.1 s_.2.2 < L8j.mu n g nb gb m C M at12 ii AL kk so14 li18 z_.1 z_.2.1 z_.2.2) (h3 : L8j.N C kk li18 k_ s_.1 s_.2.1 s_.2.2 = L8j.N C kk li18 (k_ + 1) z_.1 z_.2.1 z_.2.2) (h4 : PopOk (L8j.H n g nb gb m C M at12 ii AL kk so14 li18 z_.1 z_.2.1 z_.2.2) h_ (L8j.T n g nb gb m C M at12 ii AL kk so14 li18 s_.1 s_.2.1 s_.2.2) (L8j.H n g nb gb m C M at12 ii AL kk so14 li18 s_.1 s_.2.1 s_.2.2)) : LNextP (fun (z_ : Int × Int × Int) => L8j.T n g nb gb m C M at12 ii AL kk so14 li18 z_.1 z_.2.1 z_.2.2) (fun (z_ : Int × Int × Int) => L8j.H n g nb gb m C M at12 ii AL kk so14 li18 z_.1 z_.2.1 z_.2.2) (fun (z_ : Int × Int × Int) => L8j.inv n g nb gb m C M at12 ii AL kk so14 li18 z_.1 z_.2.1 z_.2.2) (fun (z_ : Int × Int × Int) => L8j.mu n g nb gb m C M at12 ii AL kk so14 li18 z_.1 z_.2.1 z_.2.2) (fun (k_ : Nat) (z_ : Int × Int × Int) => L8j.N C kk li18 k_ z_.1 z_.2.1 z_.2.2) k_ z_ (L8j.T n g nb gb m C M at12 ii AL kk so14 li18 s_.1 s_.2.1 s_.2.2) h_ := LNextP.mk (Tm := (fun (z_ : Int × Int × Int) => L8j.T n g nb gb m C M at12 ii AL kk so14 li18 z_.1 z_.2.1 z_.2.2)) (Hp := (fun (z_ : Int × Int × Int) => L8j.H n g nb gb m C M at12 ii AL kk so14 li18 z_.1 z_.2.1 z_.2.2)) (inv := (fun (z_ : Int × Int × Int) => L8j.inv n g nb gb m C M at12 ii AL kk so14 li18 z_.1 z_.2.1 z_.2.2)) (mu := (fun (z_ : Int × Int × Int) => L8j.mu n g nb gb m C M at12 ii AL kk so14 li18 z_.1 z_.2.1 z_.2.2)) (l := (fun (k_ : Nat) (z_ : Int × Int × Int) => L8j.N C kk li18 k_ z_.1 z_.2.1 z_.2.2)) s_ h1 h2 h3 h4

theorem L8j.en (n : Nat) (g : Nat → SD) (nb : Nat) (gb : Nat → BD) (m : Int) (C : List Int) (M : List ByteArray) (at12 : Int) (ii : Int) (AL : List Bool) (kk : Int) (so14 : Bool) (li18 : Bool) {k_ : Nat} {z_ : Int × Int × Int} {h_ : AHeap} (o_ : L8j.O) (h3 : L8j.N C kk li18 (k_ + 1) z_.1 z_.2.1 z_.2.2 = o_) (h4 : PopOk (L8j.H n g nb gb m C M at12 ii AL kk so14 li18 z_.1 z_.2.1 z_.2.2) h_ (L8j.X n g nb gb m C M at12 ii AL kk so14 li18 o_) (L8j.XH n g nb gb m C M at12 ii AL kk so14 li18 o_)) : LEndP (fun (z_ : Int × Int × Int) => L8j.H n g nb gb m C M at12 ii AL kk so14 li18 z_.1 z_.2.1 z_.2.2) (fun (k_ : Nat) (z_ : Int × Int × Int) => L8j.N C kk li18 k_ z_.1 z_.2.1 z_.2.2) L8j.E (L8j.X n g nb gb m C M at12 ii AL kk so14 li18) (L8j.XH n g nb gb m C M at12 ii AL kk so14 li18) k_ z_ (L8j.E o_) (L8j.X n g nb gb m C M at12 ii AL kk so14 li18 o_) h_ := LEndP.mk (Hp := (fun (z_ : Int × Int × Int) => L8j.H n g nb gb m C M at12 ii AL kk so14 li18 z_.1 z_.2.1 z_.2.2)) (l := (fun (k_ : Nat) (z_ : Int × Int × Int) => L8j.N C kk li18 k_ z_.1 z_.2.1 z_.2.2)) (oE := L8j.E) (oT := L8j.X n g nb gb m C M at12 ii AL kk so14 li18) (oH := L8j.XH n g nb gb m C M at12 ii AL kk so14 li18) o_ h3 h4

theorem L8j.spec (n : Nat) (g : Nat → SD) (nb : Nat) (gb : Nat → BD) (m : Int) (C : List Int) (M : List ByteArray) (hC : C.length ≤ 100) (at12 : Int) (ii : Int) (AL : List Bool) (kk : Int) (hk0 : 0 ≤ kk) (hk1 : kk < (↑n : Int)) (so14 : Bool) (li18 : Bool) (k_ : Nat) (z_ : Int × Int × Int) (hi_ : L8j.inv n g nb gb m C M at12 ii AL kk so14 li18 z_.1 z_.2.1 z_.2.2) (hm_ : L8j.mu n g nb gb m C M at12 ii AL kk so14 li18 z_.1 z_.2.1 z_.2.2 < k_) : LoopTo Try.prog (loopN Try.f8 2) (L8j.T n g nb gb m C M at12 ii AL kk so14 li18 z_.1 z_.2.1 z_.2.2) (L8j.H n g nb gb m C M at12 ii AL kk so14 li18 z_.1 z_.2.1 z_.2.2) (L8j.E (L8j.N C kk li18 k_ z_.1 z_.2.1 z_.2.2)) (L8j.X n g nb gb m C M at12 ii AL kk so14 li18 (L8j.N C kk li18 k_ z_.1 z_.2.1 z_.2.2)) (L8j.XH n g nb gb m C M at12 ii AL kk so14 li18 (L8j.N C kk li18 k_ z_.1 z_.2.1 z_.2.2)) := by
  refine LoopTo.fuelP mix (fun (z_ : Int × Int × Int) => L8j.T n g nb gb m C M at12 ii AL kk so14 li18 z_.1 z_.2.1 z_.2.2) (fun (z_ : Int × Int × Int) => L8j.H n g nb gb m C M at12 ii AL kk so14 li18 z_.1 z_.2.1 z_.2.2) (fun (z_ : Int × Int × Int) => L8j.inv n g nb gb m C M at12 ii AL kk so14 li18 z_.1 z_.2.1 z_.2.2) (fun (z_ : Int × Int × Int) => L8j.mu n g nb gb m C M at12 ii AL kk so14 li18 z_.1 z_.2.1 z_.2.2) (fun (k_ : Nat) (z_ : Int × Int × Int) => L8j.N C kk li18 k_ z_.1 z_.2.1 z_.2.2) L8j.E (L8j.X n g nb gb m C M at12 ii AL kk so14 li18) (L8j.XH n g nb gb m C M at12 ii AL kk so14 li18) (others 198 [0, 1, 2, 7, 9, 11, 12, 13, 14, 15, 16, 17, 18, 20]) (others 198 [6]) (others 198 [0, 1, 2, 7, 9, 11, 12, 13, 14, 15, 16, 17]) ?_ k_ z_ hi_ hm_
  clear hm_ hi_ z_ k_
  intro k_ z_ hinv hmu
  obtain ⟨c15, c16, c20⟩ := z_
  have hinv : 0 ≤ c20 ∧ c20 ≤ (↑C.length : Int) := hinv
  have hmu : (((↑C.length : Int) - c20).toNat) < k_ + 1 := hmu
  cases h1 : decide (c20 < (↑C.length : Int)) with
  | true =>
    have h1p := of_decide_eq_true h1
    have o0 : (0 : Int) ≤ c20 := by first | assumption | omega | (simp_all; done)
    have o1 : c20 < (↑C.length : Int) := by first | assumption | omega | (simp only [List.length_append, List.length_cons, List.length_nil, List.length_map]; omega) | (simp_all; done)
    cases h2 : C.getD c20.toNat 0 == kk with
    | true =>
      have h2p := eq_of_beq h2
      cases boolIs li18 with
      | true h3 =>
        try have := IntWalk.i64_in (c20 + 1) (by omega)
        have o2 : (0 : Int) ≤ IntKind.i64.wrap (c20 + (1 : Int)) := by first | assumption | omega | (simp_all; done)
        have o3 : IntKind.i64.wrap (c20 + (1 : Int)) ≤ (↑C.length : Int) := by first | assumption | omega | (simp only [List.length_append, List.length_cons, List.length_nil, List.length_map]; omega) | (simp_all; done)
        have o4 : ((↑C.length : Int) - IntKind.i64.wrap (c20 + (1 : Int))).toNat < ((↑C.length : Int) - c20).toNat := by first | assumption | omega | (simp only [List.length_append, List.length_cons, List.length_nil, List.length_map]; omega) | (simp_all; done)
        exact ⟨[.b true, .b true, .b true, .b true], kmp (by kernel_rfl) (And.intro h1 (And.intro (And.intro o0 o1) (And.intro h2 (And.intro h2 (And.intro h3 (L8j.nx n g nb gb m C M at12 ii AL kk so14 li18 (k_ := k_) (z_ := (c15, c16, c20)) ((IntKind.i64.wrap (c15 + 1), kk, IntKind.i64.wrap (c20 + 1))) (And.intro o2 o3) o4 (by first | (simp only [L8j.N, h1, h2, h3, cond_true, cond_false]; done) | (try unfold L8j.N; try simp only [h1, cond_true, cond_false]; try simp only [h2, cond_true, cond_false]; try simp only [h3, cond_true, cond_false]; try rfl; done)) PopOk.same))))))⟩
      | false h3 =>
        try have := IntWalk.i64_in (c20 + 1) (by omega)
        have o2 : (0 : Int) ≤ IntKind.i64.wrap (c20 + (1 : Int)) := by first | assumption | omega | (simp_all; done)
        have o3 : IntKind.i64.wrap (c20 + (1 : Int)) ≤ (↑C.length : Int) := by first | assumption | omega | (simp only [List.length_append, List.length_cons, List.length_nil, List.length_map]; omega) | (simp_all; done)
        have o4 : ((↑C.length : Int) - IntKind.i64.wrap (c20 + (1 : Int))).toNat < ((↑C.length : Int) - c20).toNat := by first | assumption | omega | (simp only [List.length_append, List.length_cons, List.length_nil, List.length_map]; omega) | (simp_all; done)
        exact ⟨[.b true, .b true, .b true, .b false], kmp (by kernel_rfl) (And.intro h1 (And.intro (And.intro o0 o1) (And.intro h2 (And.intro h2 (And.intro h3 (L8j.nx n g nb gb m C M at12 ii AL kk so14 li18 (k_ := k_) (z_ := (c15, c16, c20)) ((c15, c16, IntKind.i64.wrap (c20 + 1))) (And.intro o2 o3) o4 (by first | (simp only [L8j.N, h1, h2, h3, cond_true, cond_false]; done) | (try unfold L8j.N; try simp only [h1, cond_true, cond_false]; try simp only [h2, cond_true, cond_false]; try simp only [h3, cond_true, cond_false]; try rfl; done)) PopOk.same))))))⟩
    | false =>
      have h2p := ne_of_beq_false h2
      try have := IntWalk.i64_in (c20 + 1) (by omega)
      have o2 : (0 : Int) ≤ IntKind.i64.wrap (c20 + (1 : Int)) := by first | assumption | omega | (simp_all; done)
      have o3 : IntKind.i64.wrap (c20 + (1 : Int)) ≤ (↑C.length : Int) := by first | assumption | omega | (simp only [List.length_append, List.length_cons, List.length_nil, List.length_map]; omega) | (simp_all; done)
      have o4 : ((↑C.length : Int) - IntKind.i64.wrap (c20 + (1 : Int))).toNat < ((↑C.length : Int) - c20).toNat := by first | assumption | omega | (simp only [List.length_append, List.length_cons, List.length_nil, List.length_map]; omega) | (simp_all; done)
      exact ⟨[.b true, .b false, .b false, .b false], kmp (by kernel_rfl) (And.intro h1 (And.intro (And.intro o0 o1) (And.intro h2 (And.intro h2 (And.intro (rfl : false = false) (L8j.nx n g nb gb m C M at12 ii AL kk so14 li18 (k_ := k_) (z_ := (c15, c16, c20)) ((c15, c16, IntKind.i64.wrap (c20 + 1))) (And.intro o2 o3) o4 (by first | (simp only [L8j.N, h1, h2, cond_true, cond_false]; done) | (try unfold L8j.N; try simp only [h1, cond_true, cond_false]; try simp only [h2, cond_true, cond_false]; try rfl; done)) PopOk.same))))))⟩
  | false =>
    have h1p := of_decide_eq_false h1
    exact ⟨[.b false], kmp (by kernel_rfl) (And.intro h1 (L8j.en n g nb gb m C M at12 ii AL kk so14 li18 (k_ := k_) (z_ := (c15, c16, c20)) (.e0 (c15) (c16) : L8j.O) (by first | (simp only [L8j.N, h1, cond_true, cond_false]; done) | (try unfold L8j.N; try simp only [h1, cond_true, cond_false]; try rfl; done)) PopOk.same))⟩

theorem L8j.e0 (n : Nat) (g : Nat → SD) (nb : Nat) (gb : Nat → BD) (m : Int) (C : List Int) (M : List ByteArray) (hC : C.length ≤ 100) (at12 : Int) (ii : Int) (AL : List Bool) (kk : Int) (hk0 : 0 ≤ kk) (hk1 : kk < (↑n : Int)) (so14 : Bool) (li18 : Bool) (c15 : Int) (c16 : Int) (c20 : Int) (hinv : L8j.inv n g nb gb m C M at12 ii AL kk so14 li18 c15 c16 c20) (a0 : Int) (a1 : Int) (hN : L8j.run C kk li18 c15 c16 c20 = (.e0 a0 a1 : L8j.O)) : LoopTo Try.prog (loopN Try.f8 2) (L8j.T n g nb gb m C M at12 ii AL kk so14 li18 c15 c16 c20) (L8j.H n g nb gb m C M at12 ii AL kk so14 li18 c15 c16 c20) (Exit.exit 4) (L8j.X n g nb gb m C M at12 ii AL kk so14 li18 (.e0 a0 a1 : L8j.O)) (L8j.XH n g nb gb m C M at12 ii AL kk so14 li18 (.e0 a0 a1 : L8j.O)) := by
  have h_ := L8j.spec n g nb gb m C M hC at12 ii AL kk hk0 hk1 so14 li18 ((((↑C.length : Int) - c20).toNat) + 1) (c15, c16, c20) hinv (Nat.lt_succ_self _)
  unfold L8j.run at hN
  simp only [hN] at h_
  exact h_

theorem bd8jN {n : Nat} {C : List Int} {kk : Int} {li18 : Bool} (hk0 : 0 ≤ kk) (hk1 : kk < (n : Int)) : ∀ (q : Nat) (c15 c16 c20 a b : Int), (c15 = 0 ∨ (0 ≤ c16 ∧ c16 < (n : Int))) → L8j.N C kk li18 q c15 c16 c20 = .e0 a b → a = 0 ∨ (0 ≤ b ∧ b < (n : Int)) := by
  intro q
  induction q with
  | zero => intro c15 c16 c20 a b h0 h; simp only [L8j.N] at h; cases h; exact h0
  | succ q ih =>
    intro c15 c16 c20 a b h0 h
    simp only [L8j.N] at h
    cases h1 : decide (c20 < (C.length : Int)) with
    | false => rw [h1] at h; cases h; exact h0
    | true =>
      rw [h1] at h
      simp only [cond_true] at h
      cases h2 : C.getD c20.toNat 0 == kk with
      | false => rw [h2] at h; exact ih _ _ _ _ _ h0 h
      | true =>
        rw [h2] at h
        cases li18 with
        | false => exact ih _ _ _ _ _ h0 h
        | true => exact ih _ _ _ _ _ (Or.inr ⟨hk0, hk1⟩) h

theorem bd8j {n : Nat} {C : List Int} {kk : Int} {li18 : Bool} {c15 c16 c20 a b : Int} (h : L8j.run C kk li18 c15 c16 c20 = .e0 a b) (hk0 : 0 ≤ kk) (hk1 : kk < (n : Int)) (h0 : c15 = 0 ∨ (0 ≤ c16 ∧ c16 < (n : Int))) : a = 0 ∨ (0 ≤ b ∧ b < (n : Int)) := bd8jN hk0 hk1 _ _ _ _ _ _ h0 h

inductive L8k.O where
  | e0
  | e1 (a0 : Bool) (a1 : Int) (a2 : Int)

noncomputable def L8k.T (n : Nat) (g : Nat → SD) (nb : Nat) (gb : Nat → BD) (m : Int) (C : List Int) (M : List ByteArray) (at12 : Int) (ii : Int) (AL : List Bool) (b14 : Bool) (b15 : Int) (b16 : Int) (b17 : Int) : List AV := mkT 198 [(0, sts n g), (1, blks nb gb), (2, AV.int IntKind.i64 m), (7, AV.sl 1 C.length fun (a : Nat) => AV.int IntKind.i64 (C.getD a 0)), (9, AV.sl 1 M.length fun (a : Nat) => AV.str (M.getD a ByteArray.empty)), (11, AV.ms 0 n 1 0 n), (12, AV.int IntKind.i64 at12), (13, AV.int IntKind.i64 ii), (14, AV.bool b14), (15, AV.int IntKind.i64 b15), (16, AV.int IntKind.i64 b16), (17, AV.int IntKind.i64 b17)]

noncomputable def L8k.H (n : Nat) (g : Nat → SD) (nb : Nat) (gb : Nat → BD) (m : Int) (C : List Int) (M : List ByteArray) (at12 : Int) (ii : Int) (AL : List Bool) (b14 : Bool) (b15 : Int) (b16 : Int) (b17 : Int) : AHeap := [AObj.row 1 n (Col.bools AL)]

def L8k.inv (n : Nat) (g : Nat → SD) (nb : Nat) (gb : Nat → BD) (m : Int) (C : List Int) (M : List ByteArray) (at12 : Int) (ii : Int) (AL : List Bool) (b14 : Bool) (b15 : Int) (b16 : Int) (b17 : Int) : Prop := 0 ≤ b17 ∧ b17 ≤ (↑n : Int) ∧ (b15 = 0 ∨ 0 ≤ b16 ∧ b16 < (↑n : Int))

noncomputable def L8k.mu (n : Nat) (g : Nat → SD) (nb : Nat) (gb : Nat → BD) (m : Int) (C : List Int) (M : List ByteArray) (at12 : Int) (ii : Int) (AL : List Bool) (b14 : Bool) (b15 : Int) (b16 : Int) (b17 : Int) : Nat := ((↑n : Int) - b17).toNat

noncomputable def L8k.E : L8k.O → Exit
  | .e0 => Exit.ret
  | .e1 a0 a1 a2 => Exit.exit 2

noncomputable def L8k.X (n : Nat) (g : Nat → SD) (nb : Nat) (gb : Nat → BD) (m : Int) (C : List Int) (M : List ByteArray) (at12 : Int) (ii : Int) (AL : List Bool) : L8k.O → List AV
  | .e0 => mkT 198 [(6, (AV.bool false))]
  | .e1 a0 a1 a2 => mkT 198 [(0, (AV.sl 5 n fun (i : Nat) => AV.agg [AV.str (g i).nm, AV.int IntKind.i64 (g i).x, AV.int IntKind.i64 (g i).y, AV.sl 1 (g i).nr fun (i_1 : Nat) => AV.int IntKind.i64 ((g i).r i_1), AV.sl 1 (g i).nl fun (i_1 : Nat) => AV.int IntKind.i64 ((g i).l i_1)])), (1, (AV.sl 7 nb fun (i : Nat) => AV.agg [AV.str (gb i).nm, AV.int IntKind.i64 (gb i).a, AV.int IntKind.i64 (gb i).b, AV.int IntKind.i64 (gb i).c, AV.int IntKind.i64 (gb i).d, AV.int IntKind.i64 (gb i).e, AV.int IntKind.i64 (gb i).f])), (2, (AV.int IntKind.i64 m)), (7, (AV.sl 1 C.length fun (a : Nat) => AV.int IntKind.i64 (C.getD a 0))), (9, (AV.sl 1 M.length fun (a : Nat) => AV.str (M.getD a ByteArray.empty))), (11, (AV.ms 0 n 1 0 n)), (12, (AV.int IntKind.i64 at12)), (13, (AV.int IntKind.i64 ii)), (14, (AV.bool a0)), (15, (AV.int IntKind.i64 a1)), (16, (AV.int IntKind.i64 a2))]

noncomputable def L8k.XH (n : Nat) (g : Nat → SD) (nb : Nat) (gb : Nat → BD) (m : Int) (C : List Int) (M : List ByteArray) (at12 : Int) (ii : Int) (AL : List Bool) : L8k.O → AHeap
  | .e0 => ([AObj.row 1 n (Col.bools AL)])
  | .e1 a0 a1 a2 => ([AObj.row 1 n (Col.bools AL)])

noncomputable def L8k.N (n : Nat) (g : Nat → SD) (gb : Nat → BD) (m : Int) (C : List Int) (ii : Int) : Nat → Bool → Int → Int → Int → L8k.O
  | 0, _, _, _, _ => .e0
  | k_ + 1, b14, b15, b16, b17 => (bif decide (b17 < (↑n : Int)) then (bif r23.v1 (g b17.toNat) (gb ii.toNat).a (gb ii.toNat).b (gb ii.toNat).c (gb ii.toNat).d (gb ii.toNat).e (gb ii.toNat).f m == 0 then (bif b14 then (match L8j.run C b17 (r23.v0 (g b17.toNat) (gb ii.toNat).a (gb ii.toNat).b (gb ii.toNat).c (gb ii.toNat).d (gb ii.toNat).e (gb ii.toNat).f m) b15 b16 0 with | .e0 h4d0 h4d1 => (L8k.N n g gb m C ii k_ (true) (h4d0) (h4d1) (IntKind.i64.wrap (b17 + 1))) ) else (match L8j.run C b17 (r23.v0 (g b17.toNat) (gb ii.toNat).a (gb ii.toNat).b (gb ii.toNat).c (gb ii.toNat).d (gb ii.toNat).e (gb ii.toNat).f m) b15 b16 0 with | .e0 h4d0 h4d1 => (L8k.N n g gb m C ii k_ (r23.v0 (g b17.toNat) (gb ii.toNat).a (gb ii.toNat).b (gb ii.toNat).c (gb ii.toNat).d (gb ii.toNat).e (gb ii.toNat).f m) (h4d0) (h4d1) (IntKind.i64.wrap (b17 + 1))) )) else (.e0)) else (.e1 (b14) (b15) (b16)))

noncomputable def L8k.run (n : Nat) (g : Nat → SD) (gb : Nat → BD) (m : Int) (C : List Int) (ii : Int) (b14 : Bool) (b15 : Int) (b16 : Int) (b17 : Int) : L8k.O := L8k.N n g gb m C ii ((((↑n : Int) - b17).toNat) + 1) b14 b15 b16 b17

theorem L8k.nx (n : Nat) (g : Nat → SD) (nb : Nat) (gb : Nat → BD) (m : Int) (C : List Int) (M : List ByteArray) (at12 : Int) (ii : Int) (AL : List Bool) {k_ : Nat} {z_ : Bool × Int × Int × Int} {h_ : AHeap} (s_ : Bool × Int × Int × Int) (h1 : L8k.inv n g nb gb m C M at12 ii AL s_.1 s_.2.1 s_.2.2.1 s_.2.2.2) (h2 : L8k.mu n g nb gb m C M at12 ii AL s_.1 s_.2.1 s_.2.2.1 s_.2.2.2 < L8k.mu n g nb gb m C M at12 ii AL z_.1 z_.2.1 z_.2.2.1 z_.2.2.2) (h3 : L8k.N n g gb m C ii k_ s_.1 s_.2.1 s_.2.2.1 s_.2.2.2 = L8k.N n g gb m C ii (k_ + 1) z_.1 z_.2.1 z_.2.2.1 z_.2.2.2) (h4 : PopOk (L8k.H n g nb gb m C M at12 ii AL z_.1 z_.2.1 z_.2.2.1 z_.2.2.2) h_ (L8k.T n g nb gb m C M at12 ii AL s_.1 s_.2.1 s_.2.2.1 s_.2.2.2) (L8k.H n g nb gb m C M at12 ii AL s_.1 s_.2.1 s_.2.2.1 s_.2.2.2)) : LNextP (fun (z_ : Bool × Int × Int × Int) => L8k.T n g nb gb m C M at12 ii AL z_.1 z_.2.1 z_.2.2.1 z_.2.2.2) (fun (z_ : Bool × Int × Int × Int) => L8k.H n g nb gb m C M at12 ii AL z_.1 z_.2.1 z_.2.2.1 z_.2.2.2) (fun (z_ : Bool × Int × Int × Int) => L8k.inv n g nb gb m C M at12 ii AL z_.1 z_.2.1 z_.2.2.1 z_.2.2.2) (fun (z_ : Bool × Int × Int × Int) => L8k.mu n g nb gb m C M at12 ii AL z_.1 z_.2.1 z_.2.2.1 z_.2.2.2) (fun (k_ : Nat) (z_ : Bool × Int × Int × Int) => L8k.N n g gb m C ii k_ z_.1 z_.2.1 z_.2.2.1 z_.2.2.2) k_ z_ (L8k.T n g nb gb m C M at12 ii AL s_.1 s_.2.1 s_.2.2.1 s_.2.2.2) h_ := LNextP.mk (Tm := (fun (z_ : Bool × Int × Int × Int) => L8k.T n g nb gb m C M at12 ii AL z_.1 z_.2.1 z_.2.2.1 z_.2.2.2)) (Hp := (fun (z_ : Bool × Int × Int × Int) => L8k.H n g nb gb m C M at12 ii AL z_.1 z_.2.1 z_.2.2.1 z_.2.2.2)) (inv := (fun (z_ : Bool × Int × Int × Int) => L8k.inv n g nb gb m C M at12 ii AL z_.1 z_.2.1 z_.2.2.1 z_.2.2.2)) (mu := (fun (z_ : Bool × Int × Int × Int) => L8k.mu n g nb gb m C M at12 ii AL z_.1 z_.2.1 z_.2.2.1 z_.2.2.2)) (l := (fun (k_ : Nat) (z_ : Bool × Int × Int × Int) => L8k.N n g gb m C ii k_ z_.1 z_.2.1 z_.2.2.1 z_.2.2.2)) s_ h1 h2 h3 h4

theorem L8k.en (n : Nat) (g : Nat → SD) (nb : Nat) (gb : Nat → BD) (m : Int) (C : List Int) (M : List ByteArray) (at12 : Int) (ii : Int) (AL : List Bool) {k_ : Nat} {z_ : Bool × Int × Int × Int} {h_ : AHeap} (o_ : L8k.O) (h3 : L8k.N n g gb m C ii (k_ + 1) z_.1 z_.2.1 z_.2.2.1 z_.2.2.2 = o_) (h4 : PopOk (L8k.H n g nb gb m C M at12 ii AL z_.1 z_.2.1 z_.2.2.1 z_.2.2.2) h_ (L8k.X n g nb gb m C M at12 ii AL o_) (L8k.XH n g nb gb m C M at12 ii AL o_)) : LEndP (fun (z_ : Bool × Int × Int × Int) => L8k.H n g nb gb m C M at12 ii AL z_.1 z_.2.1 z_.2.2.1 z_.2.2.2) (fun (k_ : Nat) (z_ : Bool × Int × Int × Int) => L8k.N n g gb m C ii k_ z_.1 z_.2.1 z_.2.2.1 z_.2.2.2) L8k.E (L8k.X n g nb gb m C M at12 ii AL) (L8k.XH n g nb gb m C M at12 ii AL) k_ z_ (L8k.E o_) (L8k.X n g nb gb m C M at12 ii AL o_) h_ := LEndP.mk (Hp := (fun (z_ : Bool × Int × Int × Int) => L8k.H n g nb gb m C M at12 ii AL z_.1 z_.2.1 z_.2.2.1 z_.2.2.2)) (l := (fun (k_ : Nat) (z_ : Bool × Int × Int × Int) => L8k.N n g gb m C ii k_ z_.1 z_.2.1 z_.2.2.1 z_.2.2.2)) (oE := L8k.E) (oT := L8k.X n g nb gb m C M at12 ii AL) (oH := L8k.XH n g nb gb m C M at12 ii AL) o_ h3 h4

theorem L8k.spec (n : Nat) (g : Nat → SD) (nb : Nat) (gb : Nat → BD) (m : Int) (C : List Int) (M : List ByteArray) (hn : n ≤ 9223372036854775807) (hnb : nb ≤ 9223372036854775807) (hC : C.length ≤ 100) (at12 : Int) (ii : Int) (hi0 : 0 ≤ ii) (hi1 : ii < (↑nb : Int)) (AL : List Bool) (k_ : Nat) (z_ : Bool × Int × Int × Int) (hi_ : L8k.inv n g nb gb m C M at12 ii AL z_.1 z_.2.1 z_.2.2.1 z_.2.2.2) (hm_ : L8k.mu n g nb gb m C M at12 ii AL z_.1 z_.2.1 z_.2.2.1 z_.2.2.2 < k_) : LoopTo Try.prog (loopN Try.f8 1) (L8k.T n g nb gb m C M at12 ii AL z_.1 z_.2.1 z_.2.2.1 z_.2.2.2) (L8k.H n g nb gb m C M at12 ii AL z_.1 z_.2.1 z_.2.2.1 z_.2.2.2) (L8k.E (L8k.N n g gb m C ii k_ z_.1 z_.2.1 z_.2.2.1 z_.2.2.2)) (L8k.X n g nb gb m C M at12 ii AL (L8k.N n g gb m C ii k_ z_.1 z_.2.1 z_.2.2.1 z_.2.2.2)) (L8k.XH n g nb gb m C M at12 ii AL (L8k.N n g gb m C ii k_ z_.1 z_.2.1 z_.2.2.1 z_.2.2.2)) := by
  refine LoopTo.fuelP mix (fun (z_ : Bool × Int × Int × Int) => L8k.T n g nb gb m C M at12 ii AL z_.1 z_.2.1 z_.2.2.1 z_.2.2.2) (fun (z_ : Bool × Int × Int × Int) => L8k.H n g nb gb m C M at12 ii AL z_.1 z_.2.1 z_.2.2.1 z_.2.2.2) (fun (z_ : Bool × Int × Int × Int) => L8k.inv n g nb gb m C M at12 ii AL z_.1 z_.2.1 z_.2.2.1 z_.2.2.2) (fun (z_ : Bool × Int × Int × Int) => L8k.mu n g nb gb m C M at12 ii AL z_.1 z_.2.1 z_.2.2.1 z_.2.2.2) (fun (k_ : Nat) (z_ : Bool × Int × Int × Int) => L8k.N n g gb m C ii k_ z_.1 z_.2.1 z_.2.2.1 z_.2.2.2) L8k.E (L8k.X n g nb gb m C M at12 ii AL) (L8k.XH n g nb gb m C M at12 ii AL) (others 198 [0, 1, 2, 7, 9, 11, 12, 13, 14, 15, 16, 17]) (others 198 [6]) (others 198 [0, 1, 2, 7, 9, 11, 12, 13, 14, 15, 16]) ?_ k_ z_ hi_ hm_
  clear hm_ hi_ z_ k_
  intro k_ z_ hinv hmu
  obtain ⟨b14, b15, b16, b17⟩ := z_
  have hinv : 0 ≤ b17 ∧ b17 ≤ (↑n : Int) ∧ (b15 = 0 ∨ 0 ≤ b16 ∧ b16 < (↑n : Int)) := hinv
  have hmu : (((↑n : Int) - b17).toNat) < k_ + 1 := hmu
  cases h1 : decide (b17 < (↑n : Int)) with
  | true =>
    have h1p := of_decide_eq_true h1
    try have := bd8j (by first | assumption | omega) (by first | assumption | omega) (by first | assumption | omega) (by first | assumption | omega)
    have o0 : (0 : Int) ≤ b17 := by first | assumption | omega | (simp_all; done)
    have o1 : b17 < (↑n : Int) := by first | assumption | omega | (simp_all; done)
    have o2 : (0 : Int) ≤ ii := by first | assumption | omega | (simp_all; done)
    have o3 : ii < (↑nb : Int) := by first | assumption | omega | (simp_all; done)
    cases h2 : r23.v1 (g b17.toNat) (gb ii.toNat).a (gb ii.toNat).b (gb ii.toNat).c (gb ii.toNat).d (gb ii.toNat).e (gb ii.toNat).f m == 0 with
    | true =>
      have h2p := eq_of_beq h2
      cases boolIs b14 with
      | true h3 =>
        try have := bd8j (by first | assumption | omega) (by first | assumption | omega) (by first | assumption | omega) (by first | assumption | omega)
        have o4 : C.length ≤ (100 : Nat) := by first | assumption | omega | (simp only [List.length_append, List.length_cons, List.length_nil, List.length_map]; omega) | (simp_all; done)
        have o5 : (0 : Int) ≤ (↑C.length : Int) := by first | assumption | omega | (simp only [List.length_append, List.length_cons, List.length_nil, List.length_map]; omega) | (simp_all; done)
        cases h4 : L8j.run C b17 (r23.v0 (g b17.toNat) (gb ii.toNat).a (gb ii.toNat).b (gb ii.toNat).c (gb ii.toNat).d (gb ii.toNat).e (gb ii.toNat).f m) b15 b16 0 with
        | e0 h4d0 h4d1 =>
          try have := bd8j (by first | assumption | omega) (by first | assumption | omega) (by first | assumption | omega) (by first | assumption | omega)
          try have := IntWalk.i64_in (b17 + 1) (by omega)
          have o6 : (0 : Int) ≤ IntKind.i64.wrap (b17 + (1 : Int)) := by first | assumption | omega | (simp_all; done)
          have o7 : IntKind.i64.wrap (b17 + (1 : Int)) ≤ (↑n : Int) := by first | assumption | omega | (simp_all; done)
          have o8 : h4d0 = (0 : Int) ∨ (0 : Int) ≤ h4d1 ∧ h4d1 < (↑n : Int) := by first | assumption | omega | (simp_all; done)
          have o9 : ((↑n : Int) - IntKind.i64.wrap (b17 + (1 : Int))).toNat < ((↑n : Int) - b17).toNat := by first | assumption | omega | (simp_all; done)
          exact ⟨[.b true, .ret (AV.tup [AV.bool (r23.v0 (g b17.toNat) (gb ii.toNat).a (gb ii.toNat).b (gb ii.toNat).c (gb ii.toNat).d (gb ii.toNat).e (gb ii.toNat).f m), AV.int IntKind.i64 (r23.v1 (g b17.toNat) (gb ii.toNat).a (gb ii.toNat).b (gb ii.toNat).c (gb ii.toNat).d (gb ii.toNat).e (gb ii.toNat).f m)]) ([AObj.row 1 n (Col.bools AL)]), .b false, .b true, .b true, .loop (others 198 [0, 1, 2, 7, 9, 11, 12, 13, 14, 15, 16, 17, 18, 20]) (Exit.exit 4) (L8j.X n g nb gb m C M at12 ii AL b17 true (r23.v0 (g b17.toNat) (gb ii.toNat).a (gb ii.toNat).b (gb ii.toNat).c (gb ii.toNat).d (gb ii.toNat).e (gb ii.toNat).f m) (L8j.O.e0 h4d0 h4d1)) (L8j.XH n g nb gb m C M at12 ii AL b17 true (r23.v0 (g b17.toNat) (gb ii.toNat).a (gb ii.toNat).b (gb ii.toNat).c (gb ii.toNat).d (gb ii.toNat).e (gb ii.toNat).f m) (L8j.O.e0 h4d0 h4d1))], kmp (by kernel_rfl) (And.intro h1 (And.intro (And.intro o0 o1) (And.intro (And.intro o2 o3) (And.intro (r23 (g b17.toNat) ((gb ii.toNat).a) ((gb ii.toNat).b) ((gb ii.toNat).c) ((gb ii.toNat).d) ((gb ii.toNat).e) ((gb ii.toNat).f) (m) ([AObj.row 1 n (Col.bools AL)])) (And.intro (show (bnot (r23.v1 (g b17.toNat) (gb ii.toNat).a (gb ii.toNat).b (gb ii.toNat).c (gb ii.toNat).d (gb ii.toNat).e (gb ii.toNat).f m == 0)) = false by rw [h2]; try rfl) (And.intro h3 (And.intro h3 (And.intro (L8j.e0 (n) (g) (nb) (gb) (m) (C) (M) o4 (at12) (ii) (AL) (b17) o0 o1 (true) (r23.v0 (g b17.toNat) (gb ii.toNat).a (gb ii.toNat).b (gb ii.toNat).c (gb ii.toNat).d (gb ii.toNat).e (gb ii.toNat).f m) (b15) (b16) (0) (And.intro (show (0 : Int) ≤ (0 : Int) by first | decide | exact Int.NonNeg.mk _) o5) h4d0 h4d1 h4) (L8k.nx n g nb gb m C M at12 ii AL (k_ := k_) (z_ := (b14, b15, b16, b17)) ((true, h4d0, h4d1, IntKind.i64.wrap (b17 + 1))) (And.intro o6 (And.intro o7 o8)) o9 (by first | (simp only [L8k.N, h1, h2, h3, h4, cond_true, cond_false]; done) | (try unfold L8k.N; try simp only [h1, cond_true, cond_false]; try simp only [h2, cond_true, cond_false]; try simp only [h3, cond_true, cond_false]; try simp only [h4, cond_true, cond_false]; try rfl; done)) PopOk.same)))))))))⟩
      | false h3 =>
        try have := bd8j (by first | assumption | omega) (by first | assumption | omega) (by first | assumption | omega) (by first | assumption | omega)
        have o4 : C.length ≤ (100 : Nat) := by first | assumption | omega | (simp only [List.length_append, List.length_cons, List.length_nil, List.length_map]; omega) | (simp_all; done)
        have o5 : (0 : Int) ≤ (↑C.length : Int) := by first | assumption | omega | (simp only [List.length_append, List.length_cons, List.length_nil, List.length_map]; omega) | (simp_all; done)
        cases h4 : L8j.run C b17 (r23.v0 (g b17.toNat) (gb ii.toNat).a (gb ii.toNat).b (gb ii.toNat).c (gb ii.toNat).d (gb ii.toNat).e (gb ii.toNat).f m) b15 b16 0 with
        | e0 h4d0 h4d1 =>
          try have := bd8j (by first | assumption | omega) (by first | assumption | omega) (by first | assumption | omega) (by first | assumption | omega)
          try have := IntWalk.i64_in (b17 + 1) (by omega)
          have o6 : (0 : Int) ≤ IntKind.i64.wrap (b17 + (1 : Int)) := by first | assumption | omega | (simp_all; done)
          have o7 : IntKind.i64.wrap (b17 + (1 : Int)) ≤ (↑n : Int) := by first | assumption | omega | (simp_all; done)
          have o8 : h4d0 = (0 : Int) ∨ (0 : Int) ≤ h4d1 ∧ h4d1 < (↑n : Int) := by first | assumption | omega | (simp_all; done)
          have o9 : ((↑n : Int) - IntKind.i64.wrap (b17 + (1 : Int))).toNat < ((↑n : Int) - b17).toNat := by first | assumption | omega | (simp_all; done)
          exact ⟨[.b true, .ret (AV.tup [AV.bool (r23.v0 (g b17.toNat) (gb ii.toNat).a (gb ii.toNat).b (gb ii.toNat).c (gb ii.toNat).d (gb ii.toNat).e (gb ii.toNat).f m), AV.int IntKind.i64 (r23.v1 (g b17.toNat) (gb ii.toNat).a (gb ii.toNat).b (gb ii.toNat).c (gb ii.toNat).d (gb ii.toNat).e (gb ii.toNat).f m)]) ([AObj.row 1 n (Col.bools AL)]), .b false, .b false, .b false, .loop (others 198 [0, 1, 2, 7, 9, 11, 12, 13, 14, 15, 16, 17, 18, 20]) (Exit.exit 4) (L8j.X n g nb gb m C M at12 ii AL b17 (r23.v0 (g b17.toNat) (gb ii.toNat).a (gb ii.toNat).b (gb ii.toNat).c (gb ii.toNat).d (gb ii.toNat).e (gb ii.toNat).f m) (r23.v0 (g b17.toNat) (gb ii.toNat).a (gb ii.toNat).b (gb ii.toNat).c (gb ii.toNat).d (gb ii.toNat).e (gb ii.toNat).f m) (L8j.O.e0 h4d0 h4d1)) (L8j.XH n g nb gb m C M at12 ii AL b17 (r23.v0 (g b17.toNat) (gb ii.toNat).a (gb ii.toNat).b (gb ii.toNat).c (gb ii.toNat).d (gb ii.toNat).e (gb ii.toNat).f m) (r23.v0 (g b17.toNat) (gb ii.toNat).a (gb ii.toNat).b (gb ii.toNat).c (gb ii.toNat).d (gb ii.toNat).e (gb ii.toNat).f m) (L8j.O.e0 h4d0 h4d1))], kmp (by kernel_rfl) (And.intro h1 (And.intro (And.intro o0 o1) (And.intro (And.intro o2 o3) (And.intro (r23 (g b17.toNat) ((gb ii.toNat).a) ((gb ii.toNat).b) ((gb ii.toNat).c) ((gb ii.toNat).d) ((gb ii.toNat).e) ((gb ii.toNat).f) (m) ([AObj.row 1 n (Col.bools AL)])) (And.intro (show (bnot (r23.v1 (g b17.toNat) (gb ii.toNat).a (gb ii.toNat).b (gb ii.toNat).c (gb ii.toNat).d (gb ii.toNat).e (gb ii.toNat).f m == 0)) = false by rw [h2]; try rfl) (And.intro h3 (And.intro h3 (And.intro (L8j.e0 (n) (g) (nb) (gb) (m) (C) (M) o4 (at12) (ii) (AL) (b17) o0 o1 (r23.v0 (g b17.toNat) (gb ii.toNat).a (gb ii.toNat).b (gb ii.toNat).c (gb ii.toNat).d (gb ii.toNat).e (gb ii.toNat).f m) (r23.v0 (g b17.toNat) (gb ii.toNat).a (gb ii.toNat).b (gb ii.toNat).c (gb ii.toNat).d (gb ii.toNat).e (gb ii.toNat).f m) (b15) (b16) (0) (And.intro (show (0 : Int) ≤ (0 : Int) by first | decide | exact Int.NonNeg.mk _) o5) h4d0 h4d1 h4) (L8k.nx n g nb gb m C M at12 ii AL (k_ := k_) (z_ := (b14, b15, b16, b17)) ((r23.v0 (g b17.toNat) (gb ii.toNat).a (gb ii.toNat).b (gb ii.toNat).c (gb ii.toNat).d (gb ii.toNat).e (gb ii.toNat).f m, h4d0, h4d1, IntKind.i64.wrap (b17 + 1))) (And.intro o6 (And.intro o7 o8)) o9 (by first | (simp only [L8k.N, h1, h2, h3, h4, cond_true, cond_false]; done) | (try unfold L8k.N; try simp only [h1, cond_true, cond_false]; try simp only [h2, cond_true, cond_false]; try simp only [h3, cond_true, cond_false]; try simp only [h4, cond_true, cond_false]; try rfl; done)) PopOk.same)))))))))⟩
    | false =>
      have h2p := ne_of_beq_false h2
      exact ⟨[.b true, .ret (AV.tup [AV.bool (r23.v0 (g b17.toNat) (gb ii.toNat).a (gb ii.toNat).b (gb ii.toNat).c (gb ii.toNat).d (gb ii.toNat).e (gb ii.toNat).f m), AV.int IntKind.i64 (r23.v1 (g b17.toNat) (gb ii.toNat).a (gb ii.toNat).b (gb ii.toNat).c (gb ii.toNat).d (gb ii.toNat).e (gb ii.toNat).f m)]) ([AObj.row 1 n (Col.bools AL)]), .b true], kmp (by kernel_rfl) (And.intro h1 (And.intro (And.intro o0 o1) (And.intro (And.intro o2 o3) (And.intro (r23 (g b17.toNat) ((gb ii.toNat).a) ((gb ii.toNat).b) ((gb ii.toNat).c) ((gb ii.toNat).d) ((gb ii.toNat).e) ((gb ii.toNat).f) (m) ([AObj.row 1 n (Col.bools AL)])) (And.intro (show (bnot (r23.v1 (g b17.toNat) (gb ii.toNat).a (gb ii.toNat).b (gb ii.toNat).c (gb ii.toNat).d (gb ii.toNat).e (gb ii.toNat).f m == 0)) = true by rw [h2]; try rfl) (L8k.en n g nb gb m C M at12 ii AL (k_ := k_) (z_ := (b14, b15, b16, b17)) (.e0 : L8k.O) (by first | (simp only [L8k.N, h1, h2, cond_true, cond_false]; done) | (try unfold L8k.N; try simp only [h1, cond_true, cond_false]; try simp only [h2, cond_true, cond_false]; try rfl; done)) PopOk.same))))))⟩
  | false =>
    have h1p := of_decide_eq_false h1
    exact ⟨[.b false], kmp (by kernel_rfl) (And.intro h1 (L8k.en n g nb gb m C M at12 ii AL (k_ := k_) (z_ := (b14, b15, b16, b17)) (.e1 (b14) (b15) (b16) : L8k.O) (by first | (simp only [L8k.N, h1, cond_true, cond_false]; done) | (try unfold L8k.N; try simp only [h1, cond_true, cond_false]; try rfl; done)) PopOk.same))⟩

theorem L8k.e0 (n : Nat) (g : Nat → SD) (nb : Nat) (gb : Nat → BD) (m : Int) (C : List Int) (M : List ByteArray) (hn : n ≤ 9223372036854775807) (hnb : nb ≤ 9223372036854775807) (hC : C.length ≤ 100) (at12 : Int) (ii : Int) (hi0 : 0 ≤ ii) (hi1 : ii < (↑nb : Int)) (AL : List Bool) (b14 : Bool) (b15 : Int) (b16 : Int) (b17 : Int) (hinv : L8k.inv n g nb gb m C M at12 ii AL b14 b15 b16 b17) (hN : L8k.run n g gb m C ii b14 b15 b16 b17 = (.e0 : L8k.O)) : LoopTo Try.prog (loopN Try.f8 1) (L8k.T n g nb gb m C M at12 ii AL b14 b15 b16 b17) (L8k.H n g nb gb m C M at12 ii AL b14 b15 b16 b17) (Exit.ret) (L8k.X n g nb gb m C M at12 ii AL (.e0 : L8k.O)) (L8k.XH n g nb gb m C M at12 ii AL (.e0 : L8k.O)) := by
  have h_ := L8k.spec n g nb gb m C M hn hnb hC at12 ii hi0 hi1 AL ((((↑n : Int) - b17).toNat) + 1) (b14, b15, b16, b17) hinv (Nat.lt_succ_self _)
  unfold L8k.run at hN
  simp only [hN] at h_
  exact h_

theorem L8k.e1 (n : Nat) (g : Nat → SD) (nb : Nat) (gb : Nat → BD) (m : Int) (C : List Int) (M : List ByteArray) (hn : n ≤ 9223372036854775807) (hnb : nb ≤ 9223372036854775807) (hC : C.length ≤ 100) (at12 : Int) (ii : Int) (hi0 : 0 ≤ ii) (hi1 : ii < (↑nb : Int)) (AL : List Bool) (b14 : Bool) (b15 : Int) (b16 : Int) (b17 : Int) (hinv : L8k.inv n g nb gb m C M at12 ii AL b14 b15 b16 b17) (a0 : Bool) (a1 : Int) (a2 : Int) (hN : L8k.run n g gb m C ii b14 b15 b16 b17 = (.e1 a0 a1 a2 : L8k.O)) : LoopTo Try.prog (loopN Try.f8 1) (L8k.T n g nb gb m C M at12 ii AL b14 b15 b16 b17) (L8k.H n g nb gb m C M at12 ii AL b14 b15 b16 b17) (Exit.exit 2) (L8k.X n g nb gb m C M at12 ii AL (.e1 a0 a1 a2 : L8k.O)) (L8k.XH n g nb gb m C M at12 ii AL (.e1 a0 a1 a2 : L8k.O)) := by
  have h_ := L8k.spec n g nb gb m C M hn hnb hC at12 ii hi0 hi1 AL ((((↑n : Int) - b17).toNat) + 1) (b14, b15, b16, b17) hinv (Nat.lt_succ_self _)
  unfold L8k.run at hN
  simp only [hN] at h_
  exact h_

theorem bd8kN {n : Nat} {g : Nat → SD} {gb : Nat → BD} {m : Int} {C : List Int} {ii : Int} (hn : n ≤ 9223372036854775807) : ∀ (q c : Nat) (b14 : Bool) (b15 b16 : Int) (s : Bool) (a b : Int), (b15 = 0 ∨ (0 ≤ b16 ∧ b16 < (n : Int))) → L8k.N n g gb m C ii q b14 b15 b16 (c : Int) = .e1 s a b → a = 0 ∨ (0 ≤ b ∧ b < (n : Int)) := by
  intro q
  induction q with
  | zero => intro c b14 b15 b16 s a b h0 h; simp only [L8k.N] at h; cases h
  | succ q ih =>
    intro c b14 b15 b16 s a b h0 h
    simp only [L8k.N] at h
    cases h1 : decide ((c : Int) < (n : Int)) with
    | false => rw [h1] at h; cases h; exact h0
    | true =>
      have hlt : (c : Int) < (n : Int) := of_decide_eq_true h1
      rw [h1, wrap_succ hn (by omega)] at h
      simp only [cond_true] at h
      cases h2 : (r23.v1 (g (c : Int).toNat) (gb ii.toNat).a (gb ii.toNat).b (gb ii.toNat).c (gb ii.toNat).d (gb ii.toNat).e (gb ii.toNat).f m == 0) with
      | false => rw [h2] at h; cases h
      | true =>
        rw [h2] at h
        simp only [cond_true] at h
        cases h3 : L8j.run C (c : Int) (r23.v0 (g (c : Int).toNat) (gb ii.toNat).a (gb ii.toNat).b (gb ii.toNat).c (gb ii.toNat).d (gb ii.toNat).e (gb ii.toNat).f m) b15 b16 0 with
        | e0 u w =>
          rw [h3] at h
          have hb := bd8j (n := n) h3 (by omega) hlt h0
          cases b14 with
          | false => exact ih _ _ _ _ _ _ _ hb h
          | true => exact ih _ _ _ _ _ _ _ hb h

theorem bd8k {n : Nat} {g : Nat → SD} {gb : Nat → BD} {m : Int} {C : List Int} {ii b15 b16 a b : Int} {b14 s : Bool} (h : L8k.run n g gb m C ii b14 b15 b16 0 = .e1 s a b) (hn : n ≤ 9223372036854775807) (h0 : b15 = 0 ∨ (0 ≤ b16 ∧ b16 < (n : Int))) : a = 0 ∨ (0 ≤ b ∧ b < (n : Int)) := bd8kN hn _ 0 _ _ _ _ _ _ h0 h

inductive L8i.O where
  | e0 (a0 : List Bool)
  | e1 (a0 : Int) (a1 : List Bool)

noncomputable def L8i.T (n : Nat) (g : Nat → SD) (nb : Nat) (gb : Nat → BD) (m : Int) (C : List Int) (M : List ByteArray) (at12 : Int) (ii : Int) (AL : List Bool) : List AV := mkT 198 [(0, sts n g), (1, blks nb gb), (2, AV.int IntKind.i64 m), (7, AV.sl 1 C.length fun (a : Nat) => AV.int IntKind.i64 (C.getD a 0)), (9, AV.sl 1 M.length fun (a : Nat) => AV.str (M.getD a ByteArray.empty)), (11, AV.ms 0 n 1 0 n), (12, AV.int IntKind.i64 at12), (13, AV.int IntKind.i64 ii)]

noncomputable def L8i.H (n : Nat) (g : Nat → SD) (nb : Nat) (gb : Nat → BD) (m : Int) (C : List Int) (M : List ByteArray) (at12 : Int) (ii : Int) (AL : List Bool) : AHeap := [AObj.row 1 n (Col.bools AL)]

def L8i.inv (n : Nat) (g : Nat → SD) (nb : Nat) (gb : Nat → BD) (m : Int) (C : List Int) (M : List ByteArray) (at12 : Int) (ii : Int) (AL : List Bool) : Prop := 0 ≤ ii ∧ ii ≤ (↑nb : Int) ∧ AL.length = n ∧ 0 ≤ at12

noncomputable def L8i.mu (n : Nat) (g : Nat → SD) (nb : Nat) (gb : Nat → BD) (m : Int) (C : List Int) (M : List ByteArray) (at12 : Int) (ii : Int) (AL : List Bool) : Nat := ((↑nb : Int) - ii).toNat

noncomputable def L8i.E : L8i.O → Exit
  | .e0 a0 => Exit.ret
  | .e1 a0 a1 => Exit.exit 0

noncomputable def L8i.X (n : Nat) (g : Nat → SD) (nb : Nat) (gb : Nat → BD) (m : Int) (C : List Int) (M : List ByteArray) : L8i.O → List AV
  | .e0 a0 => mkT 198 [(6, (AV.bool false))]
  | .e1 a0 a1 => mkT 198 [(0, (AV.sl 5 n fun (i : Nat) => AV.agg [AV.str (g i).nm, AV.int IntKind.i64 (g i).x, AV.int IntKind.i64 (g i).y, AV.sl 1 (g i).nr fun (i_1 : Nat) => AV.int IntKind.i64 ((g i).r i_1), AV.sl 1 (g i).nl fun (i_1 : Nat) => AV.int IntKind.i64 ((g i).l i_1)])), (7, (AV.sl 1 C.length fun (a : Nat) => AV.int IntKind.i64 (C.getD a 0))), (9, (AV.sl 1 M.length fun (a : Nat) => AV.str (M.getD a ByteArray.empty))), (11, (AV.ms 0 n 1 0 n)), (12, (AV.int IntKind.i64 a0))]

noncomputable def L8i.XH (n : Nat) (g : Nat → SD) (nb : Nat) (gb : Nat → BD) (m : Int) (C : List Int) (M : List ByteArray) : L8i.O → AHeap
  | .e0 a0 => ((AObj.row 1 (n) (Col.bools a0)) :: ([]))
  | .e1 a0 a1 => ((AObj.row 1 (n) (Col.bools a1)) :: ([]))

noncomputable def L8i.N (n : Nat) (g : Nat → SD) (nb : Nat) (gb : Nat → BD) (m : Int) (C : List Int) (M : List ByteArray) : Nat → Int → Int → (List Bool) → L8i.O
  | 0, _, _, AL => .e0 AL
  | k_ + 1, at12, ii, AL => (bif decide (ii < (↑nb : Int)) then (match L8k.run n g gb m C ii false 0 0 0 with | .e0 => (.e0 (AL)) | .e1 h2d0 h2d1 h2d2 => (bif h2d0 then (bif h2d1 == 0 then (.e0 (AL)) else (bif h2d1 == 1 then (L8i.N n g nb gb m C M k_ (at12) (IntKind.i64.wrap (ii + 1)) (AL.set (0 + h2d2.toNat) true)) else (L8i.N n g nb gb m C M k_ (at12) (IntKind.i64.wrap (ii + 1)) (AL)))) else (bif h2d1 == 1 then (bif decide (at12 ≥ (↑M.length : Int)) then (.e0 (AL.set (0 + h2d2.toNat) true)) else (bif (M.getD at12.toNat ByteArray.empty).toList == (gb ii.toNat).nm.toList then (L8i.N n g nb gb m C M k_ (IntKind.i64.wrap (at12 + 1)) (IntKind.i64.wrap (ii + 1)) (AL.set (0 + h2d2.toNat) true)) else (.e0 (AL.set (0 + h2d2.toNat) true)))) else (bif decide (at12 ≥ (↑M.length : Int)) then (.e0 (AL)) else (bif (M.getD at12.toNat ByteArray.empty).toList == (gb ii.toNat).nm.toList then (L8i.N n g nb gb m C M k_ (IntKind.i64.wrap (at12 + 1)) (IntKind.i64.wrap (ii + 1)) (AL)) else (.e0 (AL)))))) ) else (.e1 (at12) (AL)))

noncomputable def L8i.run (n : Nat) (g : Nat → SD) (nb : Nat) (gb : Nat → BD) (m : Int) (C : List Int) (M : List ByteArray) (at12 : Int) (ii : Int) (AL : List Bool) : L8i.O := L8i.N n g nb gb m C M ((((↑nb : Int) - ii).toNat) + 1) at12 ii AL

theorem L8i.nx (n : Nat) (g : Nat → SD) (nb : Nat) (gb : Nat → BD) (m : Int) (C : List Int) (M : List ByteArray) {k_ : Nat} {z_ : Int × Int × (List Bool)} {h_ : AHeap} (s_ : Int × Int × (List Bool)) (h1 : L8i.inv n g nb gb m C M s_.1 s_.2.1 s_.2.2) (h2 : L8i.mu n g nb gb m C M s_.1 s_.2.1 s_.2.2 < L8i.mu n g nb gb m C M z_.1 z_.2.1 z_.2.2) (h3 : L8i.N n g nb gb m C M k_ s_.1 s_.2.1 s_.2.2 = L8i.N n g nb gb m C M (k_ + 1) z_.1 z_.2.1 z_.2.2) (h4 : PopOk (L8i.H n g nb gb m C M z_.1 z_.2.1 z_.2.2) h_ (L8i.T n g nb gb m C M s_.1 s_.2.1 s_.2.2) (L8i.H n g nb gb m C M s_.1 s_.2.1 s_.2.2)) : LNextP (fun (z_ : Int × Int × (List Bool)) => L8i.T n g nb gb m C M z_.1 z_.2.1 z_.2.2) (fun (z_ : Int × Int × (List Bool)) => L8i.H n g nb gb m C M z_.1 z_.2.1 z_.2.2) (fun (z_ : Int × Int × (List Bool)) => L8i.inv n g nb gb m C M z_.1 z_.2.1 z_.2.2) (fun (z_ : Int × Int × (List Bool)) => L8i.mu n g nb gb m C M z_.1 z_.2.1 z_.2.2) (fun (k_ : Nat) (z_ : Int × Int × (List Bool)) => L8i.N n g nb gb m C M k_ z_.1 z_.2.1 z_.2.2) k_ z_ (L8i.T n g nb gb m C M s_.1 s_.2.1 s_.2.2) h_ := LNextP.mk (Tm := (fun (z_ : Int × Int × (List Bool)) => L8i.T n g nb gb m C M z_.1 z_.2.1 z_.2.2)) (Hp := (fun (z_ : Int × Int × (List Bool)) => L8i.H n g nb gb m C M z_.1 z_.2.1 z_.2.2)) (inv := (fun (z_ : Int × Int × (List Bool)) => L8i.inv n g nb gb m C M z_.1 z_.2.1 z_.2.2)) (mu := (fun (z_ : Int × Int × (List Bool)) => L8i.mu n g nb gb m C M z_.1 z_.2.1 z_.2.2)) (l := (fun (k_ : Nat) (z_ : Int × Int × (List Bool)) => L8i.N n g nb gb m C M k_ z_.1 z_.2.1 z_.2.2)) s_ h1 h2 h3 h4

theorem L8i.en (n : Nat) (g : Nat → SD) (nb : Nat) (gb : Nat → BD) (m : Int) (C : List Int) (M : List ByteArray) {k_ : Nat} {z_ : Int × Int × (List Bool)} {h_ : AHeap} (o_ : L8i.O) (h3 : L8i.N n g nb gb m C M (k_ + 1) z_.1 z_.2.1 z_.2.2 = o_) (h4 : PopOk (L8i.H n g nb gb m C M z_.1 z_.2.1 z_.2.2) h_ (L8i.X n g nb gb m C M o_) (L8i.XH n g nb gb m C M o_)) : LEndP (fun (z_ : Int × Int × (List Bool)) => L8i.H n g nb gb m C M z_.1 z_.2.1 z_.2.2) (fun (k_ : Nat) (z_ : Int × Int × (List Bool)) => L8i.N n g nb gb m C M k_ z_.1 z_.2.1 z_.2.2) L8i.E (L8i.X n g nb gb m C M) (L8i.XH n g nb gb m C M) k_ z_ (L8i.E o_) (L8i.X n g nb gb m C M o_) h_ := LEndP.mk (Hp := (fun (z_ : Int × Int × (List Bool)) => L8i.H n g nb gb m C M z_.1 z_.2.1 z_.2.2)) (l := (fun (k_ : Nat) (z_ : Int × Int × (List Bool)) => L8i.N n g nb gb m C M k_ z_.1 z_.2.1 z_.2.2)) (oE := L8i.E) (oT := L8i.X n g nb gb m C M) (oH := L8i.XH n g nb gb m C M) o_ h3 h4

theorem L8i.spec (n : Nat) (g : Nat → SD) (nb : Nat) (gb : Nat → BD) (m : Int) (C : List Int) (M : List ByteArray) (hn : n ≤ 9223372036854775807) (hnb : nb ≤ 9223372036854775807) (hC : C.length ≤ 100) (hM : M.length ≤ 100) (k_ : Nat) (z_ : Int × Int × (List Bool)) (hi_ : L8i.inv n g nb gb m C M z_.1 z_.2.1 z_.2.2) (hm_ : L8i.mu n g nb gb m C M z_.1 z_.2.1 z_.2.2 < k_) : LoopTo Try.prog (loopN Try.f8 0) (L8i.T n g nb gb m C M z_.1 z_.2.1 z_.2.2) (L8i.H n g nb gb m C M z_.1 z_.2.1 z_.2.2) (L8i.E (L8i.N n g nb gb m C M k_ z_.1 z_.2.1 z_.2.2)) (L8i.X n g nb gb m C M (L8i.N n g nb gb m C M k_ z_.1 z_.2.1 z_.2.2)) (L8i.XH n g nb gb m C M (L8i.N n g nb gb m C M k_ z_.1 z_.2.1 z_.2.2)) := by
  refine LoopTo.fuelP mix (fun (z_ : Int × Int × (List Bool)) => L8i.T n g nb gb m C M z_.1 z_.2.1 z_.2.2) (fun (z_ : Int × Int × (List Bool)) => L8i.H n g nb gb m C M z_.1 z_.2.1 z_.2.2) (fun (z_ : Int × Int × (List Bool)) => L8i.inv n g nb gb m C M z_.1 z_.2.1 z_.2.2) (fun (z_ : Int × Int × (List Bool)) => L8i.mu n g nb gb m C M z_.1 z_.2.1 z_.2.2) (fun (k_ : Nat) (z_ : Int × Int × (List Bool)) => L8i.N n g nb gb m C M k_ z_.1 z_.2.1 z_.2.2) L8i.E (L8i.X n g nb gb m C M) (L8i.XH n g nb gb m C M) (others 198 [0, 1, 2, 7, 9, 11, 12, 13]) (others 198 [6]) (others 198 [0, 7, 9, 11, 12]) ?_ k_ z_ hi_ hm_
  clear hm_ hi_ z_ k_
  intro k_ z_ hinv hmu
  obtain ⟨at12, ii, AL⟩ := z_
  have hinv : 0 ≤ ii ∧ ii ≤ (↑nb : Int) ∧ AL.length = n ∧ 0 ≤ at12 := hinv
  have hmu : (((↑nb : Int) - ii).toNat) < k_ + 1 := hmu
  cases h1 : decide (ii < (↑nb : Int)) with
  | true =>
    have h1p := of_decide_eq_true h1
    try have := bd8k (by first | assumption | omega) (by first | assumption | omega) (by first | assumption | omega)
    have o0 : n ≤ (9223372036854775807 : Nat) := by first | assumption | omega | (simp_all; done)
    have o1 : nb ≤ (9223372036854775807 : Nat) := by first | assumption | omega | (simp_all; done)
    have o2 : C.length ≤ (100 : Nat) := by first | assumption | omega | (simp only [List.length_append, List.length_cons, List.length_nil, List.length_map]; omega) | (simp_all; done)
    have o3 : (0 : Int) ≤ ii := by first | assumption | omega | (simp_all; done)
    have o4 : ii < (↑nb : Int) := by first | assumption | omega | (simp_all; done)
    have o5 : (0 : Int) ≤ (↑n : Int) := by first | assumption | omega | (simp_all; done)
    have o6 : (0 : Int) = (0 : Int) ∨ (0 : Int) ≤ (0 : Int) ∧ (0 : Int) < (↑n : Int) := by first | assumption | omega | (simp_all; done)
    cases h2 : L8k.run n g gb m C ii false 0 0 0 with
    | e0 =>
      exact ⟨[.b true, .loop (others 198 [0, 1, 2, 7, 9, 11, 12, 13, 14, 15, 16, 17]) (Exit.ret) (L8k.X n g nb gb m C M at12 ii AL L8k.O.e0) (L8k.XH n g nb gb m C M at12 ii AL L8k.O.e0)], kmp (by kernel_rfl) (And.intro h1 (And.intro (L8k.e0 (n) (g) (nb) (gb) (m) (C) (M) o0 o1 o2 (at12) (ii) o3 o4 (AL) (false) (0) (0) (0) (And.intro (show (0 : Int) ≤ (0 : Int) by first | decide | exact Int.NonNeg.mk _) (And.intro o5 o6)) h2) (L8i.en n g nb gb m C M (k_ := k_) (z_ := (at12, ii, AL)) (.e0 (AL) : L8i.O) (by first | (simp only [L8i.N, h1, h2, cond_true, cond_false]; done) | (try unfold L8i.N; try simp only [h1, cond_true, cond_false]; try simp only [h2, cond_true, cond_false]; try rfl; done)) PopOk.same)))⟩
    | e1 h2d0 h2d1 h2d2 =>
      cases boolIs h2d0 with
      | true h3 =>
        cases h4 : h2d1 == 0 with
        | true =>
          have h4p := eq_of_beq h4
          exact ⟨[.b true, .loop (others 198 [0, 1, 2, 7, 9, 11, 12, 13, 14, 15, 16, 17]) (Exit.exit 2) (L8k.X n g nb gb m C M at12 ii AL (L8k.O.e1 h2d0 h2d1 h2d2)) (L8k.XH n g nb gb m C M at12 ii AL (L8k.O.e1 h2d0 h2d1 h2d2)), .b true, .b true, .b true, .b true], kmp (by kernel_rfl) (And.intro h1 (And.intro (L8k.e1 (n) (g) (nb) (gb) (m) (C) (M) o0 o1 o2 (at12) (ii) o3 o4 (AL) (false) (0) (0) (0) (And.intro (show (0 : Int) ≤ (0 : Int) by first | decide | exact Int.NonNeg.mk _) (And.intro o5 o6)) h2d0 h2d1 h2d2 h2) (And.intro h3 (And.intro h3 (And.intro h3 (And.intro h4 (L8i.en n g nb gb m C M (k_ := k_) (z_ := (at12, ii, AL)) (.e0 (AL) : L8i.O) (by first | (simp only [L8i.N, h1, h3, h4, h2, cond_true, cond_false]; done) | (try unfold L8i.N; try simp only [h1, cond_true, cond_false]; try simp only [h3, cond_true, cond_false]; try simp only [h4, cond_true, cond_false]; try simp only [h2, cond_true, cond_false]; try rfl; done)) PopOk.same)))))))⟩
        | false =>
          have h4p := ne_of_beq_false h4
          cases h5 : h2d1 == 1 with
          | true =>
            have h5p := eq_of_beq h5
            try have := bd8k (by first | assumption | omega) (by first | assumption | omega) (by first | assumption | omega)
            have o7 : (0 : Int) ≤ h2d2 := by first | assumption | omega | (simp_all; done)
            have o8 : h2d2 < (↑n : Int) := by first | assumption | omega | (simp_all; done)
            have o9 : (0 : Nat) + h2d2.toNat < (Col.bools AL).len := by first | assumption | omega | (simp only [List.length_append, List.length_cons, List.length_nil, List.length_map]; omega) | rfl | (exact Nat.le_refl _) | (simp [Col.len]; done) | (simp only [Col.len, zero_bool, zero_int, List.length_replicate, List.length_set] at *; omega) | (simp_all; done)
            try have := IntWalk.i64_in (ii + 1) (by omega)
            have o10 : (0 : Int) ≤ IntKind.i64.wrap (ii + (1 : Int)) := by first | assumption | omega | (simp_all; done)
            have o11 : IntKind.i64.wrap (ii + (1 : Int)) ≤ (↑nb : Int) := by first | assumption | omega | (simp_all; done)
            have o12 : (AL.set ((0 : Nat) + h2d2.toNat) true).length = n := by first | assumption | omega | (simp only [List.length_append, List.length_cons, List.length_nil, List.length_map]; omega) | (simp_all; done)
            have o13 : (0 : Int) ≤ at12 := by first | assumption | omega | (simp_all; done)
            have o14 : ((↑nb : Int) - IntKind.i64.wrap (ii + (1 : Int))).toNat < ((↑nb : Int) - ii).toNat := by first | assumption | omega | (simp_all; done)
            exact ⟨[.b true, .loop (others 198 [0, 1, 2, 7, 9, 11, 12, 13, 14, 15, 16, 17]) (Exit.exit 2) (L8k.X n g nb gb m C M at12 ii AL (L8k.O.e1 h2d0 h2d1 h2d2)) (L8k.XH n g nb gb m C M at12 ii AL (L8k.O.e1 h2d0 h2d1 h2d2)), .b true, .b true, .b true, .b false, .b true, .b false], kmp (by kernel_rfl) (And.intro h1 (And.intro (L8k.e1 (n) (g) (nb) (gb) (m) (C) (M) o0 o1 o2 (at12) (ii) o3 o4 (AL) (false) (0) (0) (0) (And.intro (show (0 : Int) ≤ (0 : Int) by first | decide | exact Int.NonNeg.mk _) (And.intro o5 o6)) h2d0 h2d1 h2d2 h2) (And.intro h3 (And.intro h3 (And.intro h3 (And.intro h4 (And.intro h5 (And.intro (And.intro o7 o8) (And.intro (And.intro (rfl : n = n) o9) (And.intro (show (bnot h2d0) = false by rw [h3]; try rfl) (L8i.nx n g nb gb m C M (k_ := k_) (z_ := (at12, ii, AL)) ((at12, IntKind.i64.wrap (ii + 1), AL.set (0 + h2d2.toNat) true)) (And.intro o10 (And.intro o11 (And.intro o12 o13))) o14 (by first | (simp only [L8i.N, h1, h3, h4, h5, h2, cond_true, cond_false]; done) | (try unfold L8i.N; try simp only [h1, cond_true, cond_false]; try simp only [h3, cond_true, cond_false]; try simp only [h4, cond_true, cond_false]; try simp only [h5, cond_true, cond_false]; try simp only [h2, cond_true, cond_false]; try rfl; done)) PopOk.same)))))))))))⟩
          | false =>
            have h5p := ne_of_beq_false h5
            try have := bd8k (by first | assumption | omega) (by first | assumption | omega) (by first | assumption | omega)
            try have := IntWalk.i64_in (ii + 1) (by omega)
            have o10 : (0 : Int) ≤ IntKind.i64.wrap (ii + (1 : Int)) := by first | assumption | omega | (simp_all; done)
            have o11 : IntKind.i64.wrap (ii + (1 : Int)) ≤ (↑nb : Int) := by first | assumption | omega | (simp_all; done)
            have o15 : AL.length = n := by first | assumption | omega | (simp only [List.length_append, List.length_cons, List.length_nil, List.length_map]; omega) | (simp_all; done)
            have o13 : (0 : Int) ≤ at12 := by first | assumption | omega | (simp_all; done)
            have o14 : ((↑nb : Int) - IntKind.i64.wrap (ii + (1 : Int))).toNat < ((↑nb : Int) - ii).toNat := by first | assumption | omega | (simp_all; done)
            exact ⟨[.b true, .loop (others 198 [0, 1, 2, 7, 9, 11, 12, 13, 14, 15, 16, 17]) (Exit.exit 2) (L8k.X n g nb gb m C M at12 ii AL (L8k.O.e1 h2d0 h2d1 h2d2)) (L8k.XH n g nb gb m C M at12 ii AL (L8k.O.e1 h2d0 h2d1 h2d2)), .b true, .b true, .b true, .b false, .b false, .b false], kmp (by kernel_rfl) (And.intro h1 (And.intro (L8k.e1 (n) (g) (nb) (gb) (m) (C) (M) o0 o1 o2 (at12) (ii) o3 o4 (AL) (false) (0) (0) (0) (And.intro (show (0 : Int) ≤ (0 : Int) by first | decide | exact Int.NonNeg.mk _) (And.intro o5 o6)) h2d0 h2d1 h2d2 h2) (And.intro h3 (And.intro h3 (And.intro h3 (And.intro h4 (And.intro h5 (And.intro (show (bnot h2d0) = false by rw [h3]; try rfl) (L8i.nx n g nb gb m C M (k_ := k_) (z_ := (at12, ii, AL)) ((at12, IntKind.i64.wrap (ii + 1), AL)) (And.intro o10 (And.intro o11 (And.intro o15 o13))) o14 (by first | (simp only [L8i.N, h1, h3, h4, h5, h2, cond_true, cond_false]; done) | (try unfold L8i.N; try simp only [h1, cond_true, cond_false]; try simp only [h3, cond_true, cond_false]; try simp only [h4, cond_true, cond_false]; try simp only [h5, cond_true, cond_false]; try simp only [h2, cond_true, cond_false]; try rfl; done)) PopOk.same)))))))))⟩
      | false h3 =>
        cases h4 : h2d1 == 1 with
        | true =>
          have h4p := eq_of_beq h4
          try have := bd8k (by first | assumption | omega) (by first | assumption | omega) (by first | assumption | omega)
          have o7 : (0 : Int) ≤ h2d2 := by first | assumption | omega | (simp_all; done)
          have o8 : h2d2 < (↑n : Int) := by first | assumption | omega | (simp_all; done)
          have o9 : (0 : Nat) + h2d2.toNat < (Col.bools AL).len := by first | assumption | omega | (simp only [List.length_append, List.length_cons, List.length_nil, List.length_map]; omega) | rfl | (exact Nat.le_refl _) | (simp [Col.len]; done) | (simp only [Col.len, zero_bool, zero_int, List.length_replicate, List.length_set] at *; omega) | (simp_all; done)
          cases h5 : decide (at12 ≥ (↑M.length : Int)) with
          | true =>
            have h5p := of_decide_eq_true h5
            exact ⟨[.b true, .loop (others 198 [0, 1, 2, 7, 9, 11, 12, 13, 14, 15, 16, 17]) (Exit.exit 2) (L8k.X n g nb gb m C M at12 ii AL (L8k.O.e1 h2d0 h2d1 h2d2)) (L8k.XH n g nb gb m C M at12 ii AL (L8k.O.e1 h2d0 h2d1 h2d2)), .b false, .b false, .b false, .b false, .b true, .b true, .b true, .b true, .b true, .b true, .b true, .b true, .b true, .b true, .b true, .b true, .b true, .b true], kmp (by kernel_rfl) (And.intro h1 (And.intro (L8k.e1 (n) (g) (nb) (gb) (m) (C) (M) o0 o1 o2 (at12) (ii) o3 o4 (AL) (false) (0) (0) (0) (And.intro (show (0 : Int) ≤ (0 : Int) by first | decide | exact Int.NonNeg.mk _) (And.intro o5 o6)) h2d0 h2d1 h2d2 h2) (And.intro h3 (And.intro h3 (And.intro h3 (And.intro (rfl : false = false) (And.intro h4 (And.intro (And.intro o7 o8) (And.intro (And.intro (rfl : n = n) o9) (And.intro (show (bnot h2d0) = true by rw [h3]; try rfl) (And.intro h5 (And.intro h5 (And.intro h5 (And.intro h5 (And.intro h5 (And.intro h5 (And.intro h5 (And.intro h5 (And.intro h5 (And.intro h5 (And.intro h5 (And.intro (rfl : true = true) (L8i.en n g nb gb m C M (k_ := k_) (z_ := (at12, ii, AL)) (.e0 (AL.set (0 + h2d2.toNat) true) : L8i.O) (by first | (simp only [L8i.N, h1, h3, h4, h5, h2, cond_true, cond_false]; done) | (try unfold L8i.N; try simp only [h1, cond_true, cond_false]; try simp only [h3, cond_true, cond_false]; try simp only [h4, cond_true, cond_false]; try simp only [h5, cond_true, cond_false]; try simp only [h2, cond_true, cond_false]; try rfl; done)) PopOk.same)))))))))))))))))))))))⟩
          | false =>
            have h5p := of_decide_eq_false h5
            try have := bd8k (by first | assumption | omega) (by first | assumption | omega) (by first | assumption | omega)
            have o13 : (0 : Int) ≤ at12 := by first | assumption | omega | (simp_all; done)
            have o16 : at12 < (↑M.length : Int) := by first | assumption | omega | (simp only [List.length_append, List.length_cons, List.length_nil, List.length_map]; omega) | (simp_all; done)
            cases h6 : (M.getD at12.toNat ByteArray.empty).toList == (gb ii.toNat).nm.toList with
            | true =>
              have h6p := str_eq h6
              try have := bd8k (by first | assumption | omega) (by first | assumption | omega) (by first | assumption | omega)
              try have := IntWalk.i64_in (ii + 1) (by omega)
              have o10 : (0 : Int) ≤ IntKind.i64.wrap (ii + (1 : Int)) := by first | assumption | omega | (simp_all; done)
              have o11 : IntKind.i64.wrap (ii + (1 : Int)) ≤ (↑nb : Int) := by first | assumption | omega | (simp_all; done)
              have o12 : (AL.set ((0 : Nat) + h2d2.toNat) true).length = n := by first | assumption | omega | (simp only [List.length_append, List.length_cons, List.length_nil, List.length_map]; omega) | (simp_all; done)
              try have := IntWalk.i64_in (at12 + 1) (by omega)
              have o17 : (0 : Int) ≤ IntKind.i64.wrap (at12 + (1 : Int)) := by first | assumption | omega | (simp_all; done)
              have o14 : ((↑nb : Int) - IntKind.i64.wrap (ii + (1 : Int))).toNat < ((↑nb : Int) - ii).toNat := by first | assumption | omega | (simp_all; done)
              exact ⟨[.b true, .loop (others 198 [0, 1, 2, 7, 9, 11, 12, 13, 14, 15, 16, 17]) (Exit.exit 2) (L8k.X n g nb gb m C M at12 ii AL (L8k.O.e1 h2d0 h2d1 h2d2)) (L8k.XH n g nb gb m C M at12 ii AL (L8k.O.e1 h2d0 h2d1 h2d2)), .b false, .b false, .b false, .b false, .b true, .b true, .b false, .b false, .b false, .b false, .b false, .b false, .b false, .b false, .b false, .b false, .b false, .b false], kmp (by kernel_rfl) (And.intro h1 (And.intro (L8k.e1 (n) (g) (nb) (gb) (m) (C) (M) o0 o1 o2 (at12) (ii) o3 o4 (AL) (false) (0) (0) (0) (And.intro (show (0 : Int) ≤ (0 : Int) by first | decide | exact Int.NonNeg.mk _) (And.intro o5 o6)) h2d0 h2d1 h2d2 h2) (And.intro h3 (And.intro h3 (And.intro h3 (And.intro (rfl : false = false) (And.intro h4 (And.intro (And.intro o7 o8) (And.intro (And.intro (rfl : n = n) o9) (And.intro (show (bnot h2d0) = true by rw [h3]; try rfl) (And.intro h5 (And.intro h5 (And.intro h5 (And.intro (And.intro o13 o16) (And.intro h5 (And.intro h5 (And.intro h5 (And.intro h5 (And.intro (And.intro o3 o4) (And.intro h5 (And.intro h5 (And.intro h5 (And.intro h5 (And.intro (show (bnot ((M.getD at12.toNat ByteArray.empty).toList == (gb ii.toNat).nm.toList)) = false by rw [h6]; try rfl) (L8i.nx n g nb gb m C M (k_ := k_) (z_ := (at12, ii, AL)) ((IntKind.i64.wrap (at12 + 1), IntKind.i64.wrap (ii + 1), AL.set (0 + h2d2.toNat) true)) (And.intro o10 (And.intro o11 (And.intro o12 o17))) o14 (by first | (simp only [L8i.N, h1, h3, h4, h5, h6, h2, cond_true, cond_false]; done) | (try unfold L8i.N; try simp only [h1, cond_true, cond_false]; try simp only [h3, cond_true, cond_false]; try simp only [h4, cond_true, cond_false]; try simp only [h5, cond_true, cond_false]; try simp only [h6, cond_true, cond_false]; try simp only [h2, cond_true, cond_false]; try rfl; done)) PopOk.same)))))))))))))))))))))))))⟩
            | false =>
              have h6p := str_ne h6
              exact ⟨[.b true, .loop (others 198 [0, 1, 2, 7, 9, 11, 12, 13, 14, 15, 16, 17]) (Exit.exit 2) (L8k.X n g nb gb m C M at12 ii AL (L8k.O.e1 h2d0 h2d1 h2d2)) (L8k.XH n g nb gb m C M at12 ii AL (L8k.O.e1 h2d0 h2d1 h2d2)), .b false, .b false, .b false, .b false, .b true, .b true, .b false, .b false, .b false, .b false, .b false, .b false, .b false, .b false, .b false, .b false, .b false, .b true], kmp (by kernel_rfl) (And.intro h1 (And.intro (L8k.e1 (n) (g) (nb) (gb) (m) (C) (M) o0 o1 o2 (at12) (ii) o3 o4 (AL) (false) (0) (0) (0) (And.intro (show (0 : Int) ≤ (0 : Int) by first | decide | exact Int.NonNeg.mk _) (And.intro o5 o6)) h2d0 h2d1 h2d2 h2) (And.intro h3 (And.intro h3 (And.intro h3 (And.intro (rfl : false = false) (And.intro h4 (And.intro (And.intro o7 o8) (And.intro (And.intro (rfl : n = n) o9) (And.intro (show (bnot h2d0) = true by rw [h3]; try rfl) (And.intro h5 (And.intro h5 (And.intro h5 (And.intro (And.intro o13 o16) (And.intro h5 (And.intro h5 (And.intro h5 (And.intro h5 (And.intro (And.intro o3 o4) (And.intro h5 (And.intro h5 (And.intro h5 (And.intro h5 (And.intro (show (bnot ((M.getD at12.toNat ByteArray.empty).toList == (gb ii.toNat).nm.toList)) = true by rw [h6]; try rfl) (L8i.en n g nb gb m C M (k_ := k_) (z_ := (at12, ii, AL)) (.e0 (AL.set (0 + h2d2.toNat) true) : L8i.O) (by first | (simp only [L8i.N, h1, h3, h4, h5, h6, h2, cond_true, cond_false]; done) | (try unfold L8i.N; try simp only [h1, cond_true, cond_false]; try simp only [h3, cond_true, cond_false]; try simp only [h4, cond_true, cond_false]; try simp only [h5, cond_true, cond_false]; try simp only [h6, cond_true, cond_false]; try simp only [h2, cond_true, cond_false]; try rfl; done)) PopOk.same)))))))))))))))))))))))))⟩
        | false =>
          have h4p := ne_of_beq_false h4
          cases h5 : decide (at12 ≥ (↑M.length : Int)) with
          | true =>
            have h5p := of_decide_eq_true h5
            exact ⟨[.b true, .loop (others 198 [0, 1, 2, 7, 9, 11, 12, 13, 14, 15, 16, 17]) (Exit.exit 2) (L8k.X n g nb gb m C M at12 ii AL (L8k.O.e1 h2d0 h2d1 h2d2)) (L8k.XH n g nb gb m C M at12 ii AL (L8k.O.e1 h2d0 h2d1 h2d2)), .b false, .b false, .b false, .b false, .b false, .b true, .b true, .b true, .b true, .b true, .b true, .b true, .b true, .b true, .b true, .b true, .b true, .b true], kmp (by kernel_rfl) (And.intro h1 (And.intro (L8k.e1 (n) (g) (nb) (gb) (m) (C) (M) o0 o1 o2 (at12) (ii) o3 o4 (AL) (false) (0) (0) (0) (And.intro (show (0 : Int) ≤ (0 : Int) by first | decide | exact Int.NonNeg.mk _) (And.intro o5 o6)) h2d0 h2d1 h2d2 h2) (And.intro h3 (And.intro h3 (And.intro h3 (And.intro (rfl : false = false) (And.intro h4 (And.intro (show (bnot h2d0) = true by rw [h3]; try rfl) (And.intro h5 (And.intro h5 (And.intro h5 (And.intro h5 (And.intro h5 (And.intro h5 (And.intro h5 (And.intro h5 (And.intro h5 (And.intro h5 (And.intro h5 (And.intro (rfl : true = true) (L8i.en n g nb gb m C M (k_ := k_) (z_ := (at12, ii, AL)) (.e0 (AL) : L8i.O) (by first | (simp only [L8i.N, h1, h3, h4, h5, h2, cond_true, cond_false]; done) | (try unfold L8i.N; try simp only [h1, cond_true, cond_false]; try simp only [h3, cond_true, cond_false]; try simp only [h4, cond_true, cond_false]; try simp only [h5, cond_true, cond_false]; try simp only [h2, cond_true, cond_false]; try rfl; done)) PopOk.same)))))))))))))))))))))⟩
          | false =>
            have h5p := of_decide_eq_false h5
            try have := bd8k (by first | assumption | omega) (by first | assumption | omega) (by first | assumption | omega)
            have o13 : (0 : Int) ≤ at12 := by first | assumption | omega | (simp_all; done)
            have o16 : at12 < (↑M.length : Int) := by first | assumption | omega | (simp only [List.length_append, List.length_cons, List.length_nil, List.length_map]; omega) | (simp_all; done)
            cases h6 : (M.getD at12.toNat ByteArray.empty).toList == (gb ii.toNat).nm.toList with
            | true =>
              have h6p := str_eq h6
              try have := bd8k (by first | assumption | omega) (by first | assumption | omega) (by first | assumption | omega)
              try have := IntWalk.i64_in (ii + 1) (by omega)
              have o10 : (0 : Int) ≤ IntKind.i64.wrap (ii + (1 : Int)) := by first | assumption | omega | (simp_all; done)
              have o11 : IntKind.i64.wrap (ii + (1 : Int)) ≤ (↑nb : Int) := by first | assumption | omega | (simp_all; done)
              have o15 : AL.length = n := by first | assumption | omega | (simp only [List.length_append, List.length_cons, List.length_nil, List.length_map]; omega) | (simp_all; done)
              try have := IntWalk.i64_in (at12 + 1) (by omega)
              have o17 : (0 : Int) ≤ IntKind.i64.wrap (at12 + (1 : Int)) := by first | assumption | omega | (simp_all; done)
              have o14 : ((↑nb : Int) - IntKind.i64.wrap (ii + (1 : Int))).toNat < ((↑nb : Int) - ii).toNat := by first | assumption | omega | (simp_all; done)
              exact ⟨[.b true, .loop (others 198 [0, 1, 2, 7, 9, 11, 12, 13, 14, 15, 16, 17]) (Exit.exit 2) (L8k.X n g nb gb m C M at12 ii AL (L8k.O.e1 h2d0 h2d1 h2d2)) (L8k.XH n g nb gb m C M at12 ii AL (L8k.O.e1 h2d0 h2d1 h2d2)), .b false, .b false, .b false, .b false, .b false, .b true, .b false, .b false, .b false, .b false, .b false, .b false, .b false, .b false, .b false, .b false, .b false, .b false], kmp (by kernel_rfl) (And.intro h1 (And.intro (L8k.e1 (n) (g) (nb) (gb) (m) (C) (M) o0 o1 o2 (at12) (ii) o3 o4 (AL) (false) (0) (0) (0) (And.intro (show (0 : Int) ≤ (0 : Int) by first | decide | exact Int.NonNeg.mk _) (And.intro o5 o6)) h2d0 h2d1 h2d2 h2) (And.intro h3 (And.intro h3 (And.intro h3 (And.intro (rfl : false = false) (And.intro h4 (And.intro (show (bnot h2d0) = true by rw [h3]; try rfl) (And.intro h5 (And.intro h5 (And.intro h5 (And.intro (And.intro o13 o16) (And.intro h5 (And.intro h5 (And.intro h5 (And.intro h5 (And.intro (And.intro o3 o4) (And.intro h5 (And.intro h5 (And.intro h5 (And.intro h5 (And.intro (show (bnot ((M.getD at12.toNat ByteArray.empty).toList == (gb ii.toNat).nm.toList)) = false by rw [h6]; try rfl) (L8i.nx n g nb gb m C M (k_ := k_) (z_ := (at12, ii, AL)) ((IntKind.i64.wrap (at12 + 1), IntKind.i64.wrap (ii + 1), AL)) (And.intro o10 (And.intro o11 (And.intro o15 o17))) o14 (by first | (simp only [L8i.N, h1, h3, h4, h5, h6, h2, cond_true, cond_false]; done) | (try unfold L8i.N; try simp only [h1, cond_true, cond_false]; try simp only [h3, cond_true, cond_false]; try simp only [h4, cond_true, cond_false]; try simp only [h5, cond_true, cond_false]; try simp only [h6, cond_true, cond_false]; try simp only [h2, cond_true, cond_false]; try rfl; done)) PopOk.same)))))))))))))))))))))))⟩
            | false =>
              have h6p := str_ne h6
              exact ⟨[.b true, .loop (others 198 [0, 1, 2, 7, 9, 11, 12, 13, 14, 15, 16, 17]) (Exit.exit 2) (L8k.X n g nb gb m C M at12 ii AL (L8k.O.e1 h2d0 h2d1 h2d2)) (L8k.XH n g nb gb m C M at12 ii AL (L8k.O.e1 h2d0 h2d1 h2d2)), .b false, .b false, .b false, .b false, .b false, .b true, .b false, .b false, .b false, .b false, .b false, .b false, .b false, .b false, .b false, .b false, .b false, .b true], kmp (by kernel_rfl) (And.intro h1 (And.intro (L8k.e1 (n) (g) (nb) (gb) (m) (C) (M) o0 o1 o2 (at12) (ii) o3 o4 (AL) (false) (0) (0) (0) (And.intro (show (0 : Int) ≤ (0 : Int) by first | decide | exact Int.NonNeg.mk _) (And.intro o5 o6)) h2d0 h2d1 h2d2 h2) (And.intro h3 (And.intro h3 (And.intro h3 (And.intro (rfl : false = false) (And.intro h4 (And.intro (show (bnot h2d0) = true by rw [h3]; try rfl) (And.intro h5 (And.intro h5 (And.intro h5 (And.intro (And.intro o13 o16) (And.intro h5 (And.intro h5 (And.intro h5 (And.intro h5 (And.intro (And.intro o3 o4) (And.intro h5 (And.intro h5 (And.intro h5 (And.intro h5 (And.intro (show (bnot ((M.getD at12.toNat ByteArray.empty).toList == (gb ii.toNat).nm.toList)) = true by rw [h6]; try rfl) (L8i.en n g nb gb m C M (k_ := k_) (z_ := (at12, ii, AL)) (.e0 (AL) : L8i.O) (by first | (simp only [L8i.N, h1, h3, h4, h5, h6, h2, cond_true, cond_false]; done) | (try unfold L8i.N; try simp only [h1, cond_true, cond_false]; try simp only [h3, cond_true, cond_false]; try simp only [h4, cond_true, cond_false]; try simp only [h5, cond_true, cond_false]; try simp only [h6, cond_true, cond_false]; try simp only [h2, cond_true, cond_false]; try rfl; done)) PopOk.same)))))))))))))))))))))))⟩
  | false =>
    have h1p := of_decide_eq_false h1
    exact ⟨[.b false], kmp (by kernel_rfl) (And.intro h1 (L8i.en n g nb gb m C M (k_ := k_) (z_ := (at12, ii, AL)) (.e1 (at12) (AL) : L8i.O) (by first | (simp only [L8i.N, h1, cond_true, cond_false]; done) | (try unfold L8i.N; try simp only [h1, cond_true, cond_false]; try rfl; done)) PopOk.same))⟩

theorem L8i.e0 (n : Nat) (g : Nat → SD) (nb : Nat) (gb : Nat → BD) (m : Int) (C : List Int) (M : List ByteArray) (hn : n ≤ 9223372036854775807) (hnb : nb ≤ 9223372036854775807) (hC : C.length ≤ 100) (hM : M.length ≤ 100) (at12 : Int) (ii : Int) (AL : List Bool) (hinv : L8i.inv n g nb gb m C M at12 ii AL) (a0 : List Bool) (hN : L8i.run n g nb gb m C M at12 ii AL = (.e0 a0 : L8i.O)) : LoopTo Try.prog (loopN Try.f8 0) (L8i.T n g nb gb m C M at12 ii AL) (L8i.H n g nb gb m C M at12 ii AL) (Exit.ret) (L8i.X n g nb gb m C M (.e0 a0 : L8i.O)) (L8i.XH n g nb gb m C M (.e0 a0 : L8i.O)) := by
  have h_ := L8i.spec n g nb gb m C M hn hnb hC hM ((((↑nb : Int) - ii).toNat) + 1) (at12, ii, AL) hinv (Nat.lt_succ_self _)
  unfold L8i.run at hN
  simp only [hN] at h_
  exact h_

theorem L8i.e1 (n : Nat) (g : Nat → SD) (nb : Nat) (gb : Nat → BD) (m : Int) (C : List Int) (M : List ByteArray) (hn : n ≤ 9223372036854775807) (hnb : nb ≤ 9223372036854775807) (hC : C.length ≤ 100) (hM : M.length ≤ 100) (at12 : Int) (ii : Int) (AL : List Bool) (hinv : L8i.inv n g nb gb m C M at12 ii AL) (a0 : Int) (a1 : List Bool) (hN : L8i.run n g nb gb m C M at12 ii AL = (.e1 a0 a1 : L8i.O)) : LoopTo Try.prog (loopN Try.f8 0) (L8i.T n g nb gb m C M at12 ii AL) (L8i.H n g nb gb m C M at12 ii AL) (Exit.exit 0) (L8i.X n g nb gb m C M (.e1 a0 a1 : L8i.O)) (L8i.XH n g nb gb m C M (.e1 a0 a1 : L8i.O)) := by
  have h_ := L8i.spec n g nb gb m C M hn hnb hC hM ((((↑nb : Int) - ii).toNat) + 1) (at12, ii, AL) hinv (Nat.lt_succ_self _)
  unfold L8i.run at hN
  simp only [hN] at h_
  exact h_

theorem L8i.leq0_0 (n : Nat) (g : Nat → SD) (nb : Nat) (gb : Nat → BD) (m : Int) (C : List Int) (M : List ByteArray) : ∀ (m_ : Nat) (at12 : Int) (ii : Int) (AL : List Bool) (a0_ : List Bool), L8i.N n g nb gb m C M m_ at12 ii AL = (.e0 a0_ : L8i.O) → (a0_).length = (AL).length := by
  intro m_
  induction m_ with
  | zero =>
    intro at12 ii AL a0_ h_
    simp only [L8i.N] at h_
    cases h_
    try rfl
  | succ m_ ih_ =>
    intro at12 ii AL a0_ h_
    cases h1 : decide (ii < (↑nb : Int)) with
    | true =>
      have h1p := of_decide_eq_true h1
      cases h2 : L8k.run n g gb m C ii false 0 0 0 with
      | e0 =>
        (simp only [L8i.N, h1, h2, cond_true, cond_false] at h_; first | (have q_ := ih_ _ _ _ _ h_; (try simp only [List.length_set] at *); omega) | (cases h_; done) | (cases h_; first | rfl | simp))
      | e1 h2d0 h2d1 h2d2 =>
        cases boolIs h2d0 with
        | true h3 =>
          cases h4 : h2d1 == 0 with
          | true =>
            have h4p := eq_of_beq h4
            (simp only [L8i.N, h1, h3, h4, h2, cond_true, cond_false] at h_; first | (have q_ := ih_ _ _ _ _ h_; (try simp only [List.length_set] at *); omega) | (cases h_; done) | (cases h_; first | rfl | simp))
          | false =>
            have h4p := ne_of_beq_false h4
            cases h5 : h2d1 == 1 with
            | true =>
              have h5p := eq_of_beq h5
              (simp only [L8i.N, h1, h3, h4, h5, h2, cond_true, cond_false] at h_; first | (have q_ := ih_ _ _ _ _ h_; (try simp only [List.length_set] at *); omega) | (cases h_; done) | (cases h_; first | rfl | simp))
            | false =>
              have h5p := ne_of_beq_false h5
              (simp only [L8i.N, h1, h3, h4, h5, h2, cond_true, cond_false] at h_; first | (have q_ := ih_ _ _ _ _ h_; (try simp only [List.length_set] at *); omega) | (cases h_; done) | (cases h_; first | rfl | simp))
        | false h3 =>
          cases h4 : h2d1 == 1 with
          | true =>
            have h4p := eq_of_beq h4
            cases h5 : decide (at12 ≥ (↑M.length : Int)) with
            | true =>
              have h5p := of_decide_eq_true h5
              (simp only [L8i.N, h1, h3, h4, h5, h2, cond_true, cond_false] at h_; first | (have q_ := ih_ _ _ _ _ h_; (try simp only [List.length_set] at *); omega) | (cases h_; done) | (cases h_; first | rfl | simp))
            | false =>
              have h5p := of_decide_eq_false h5
              cases h6 : (M.getD at12.toNat ByteArray.empty).toList == (gb ii.toNat).nm.toList with
              | true =>
                have h6p := str_eq h6
                (simp only [L8i.N, h1, h3, h4, h5, h6, h2, cond_true, cond_false] at h_; first | (have q_ := ih_ _ _ _ _ h_; (try simp only [List.length_set] at *); omega) | (cases h_; done) | (cases h_; first | rfl | simp))
              | false =>
                have h6p := str_ne h6
                (simp only [L8i.N, h1, h3, h4, h5, h6, h2, cond_true, cond_false] at h_; first | (have q_ := ih_ _ _ _ _ h_; (try simp only [List.length_set] at *); omega) | (cases h_; done) | (cases h_; first | rfl | simp))
          | false =>
            have h4p := ne_of_beq_false h4
            cases h5 : decide (at12 ≥ (↑M.length : Int)) with
            | true =>
              have h5p := of_decide_eq_true h5
              (simp only [L8i.N, h1, h3, h4, h5, h2, cond_true, cond_false] at h_; first | (have q_ := ih_ _ _ _ _ h_; (try simp only [List.length_set] at *); omega) | (cases h_; done) | (cases h_; first | rfl | simp))
            | false =>
              have h5p := of_decide_eq_false h5
              cases h6 : (M.getD at12.toNat ByteArray.empty).toList == (gb ii.toNat).nm.toList with
              | true =>
                have h6p := str_eq h6
                (simp only [L8i.N, h1, h3, h4, h5, h6, h2, cond_true, cond_false] at h_; first | (have q_ := ih_ _ _ _ _ h_; (try simp only [List.length_set] at *); omega) | (cases h_; done) | (cases h_; first | rfl | simp))
              | false =>
                have h6p := str_ne h6
                (simp only [L8i.N, h1, h3, h4, h5, h6, h2, cond_true, cond_false] at h_; first | (have q_ := ih_ _ _ _ _ h_; (try simp only [List.length_set] at *); omega) | (cases h_; done) | (cases h_; first | rfl | simp))
    | false =>
      have h1p := of_decide_eq_false h1
      (simp only [L8i.N, h1, cond_true, cond_false] at h_; first | (have q_ := ih_ _ _ _ _ h_; (try simp only [List.length_set] at *); omega) | (cases h_; done) | (cases h_; first | rfl | simp))

theorem L8i.leqR0_0 (n : Nat) (g : Nat → SD) (nb : Nat) (gb : Nat → BD) (m : Int) (C : List Int) (M : List ByteArray) {at12 : Int} {ii : Int} {AL : List Bool} {a0_ : List Bool} (h_ : L8i.run n g nb gb m C M at12 ii AL = (.e0 a0_ : L8i.O)) : (a0_).length = (AL).length := L8i.leq0_0 n g nb gb m C M _ at12 ii AL a0_ h_

theorem L8i.leq1_1 (n : Nat) (g : Nat → SD) (nb : Nat) (gb : Nat → BD) (m : Int) (C : List Int) (M : List ByteArray) : ∀ (m_ : Nat) (at12 : Int) (ii : Int) (AL : List Bool) (a0_ : Int) (a1_ : List Bool), L8i.N n g nb gb m C M m_ at12 ii AL = (.e1 a0_ a1_ : L8i.O) → (a1_).length = (AL).length := by
  intro m_
  induction m_ with
  | zero =>
    intro at12 ii AL a0_ a1_ h_
    simp only [L8i.N] at h_
    cases h_
    try rfl
  | succ m_ ih_ =>
    intro at12 ii AL a0_ a1_ h_
    cases h1 : decide (ii < (↑nb : Int)) with
    | true =>
      have h1p := of_decide_eq_true h1
      cases h2 : L8k.run n g gb m C ii false 0 0 0 with
      | e0 =>
        (simp only [L8i.N, h1, h2, cond_true, cond_false] at h_; first | (have q_ := ih_ _ _ _ _ _ h_; (try simp only [List.length_set] at *); omega) | (cases h_; done) | (cases h_; first | rfl | simp))
      | e1 h2d0 h2d1 h2d2 =>
        cases boolIs h2d0 with
        | true h3 =>
          cases h4 : h2d1 == 0 with
          | true =>
            have h4p := eq_of_beq h4
            (simp only [L8i.N, h1, h3, h4, h2, cond_true, cond_false] at h_; first | (have q_ := ih_ _ _ _ _ _ h_; (try simp only [List.length_set] at *); omega) | (cases h_; done) | (cases h_; first | rfl | simp))
          | false =>
            have h4p := ne_of_beq_false h4
            cases h5 : h2d1 == 1 with
            | true =>
              have h5p := eq_of_beq h5
              (simp only [L8i.N, h1, h3, h4, h5, h2, cond_true, cond_false] at h_; first | (have q_ := ih_ _ _ _ _ _ h_; (try simp only [List.length_set] at *); omega) | (cases h_; done) | (cases h_; first | rfl | simp))
            | false =>
              have h5p := ne_of_beq_false h5
              (simp only [L8i.N, h1, h3, h4, h5, h2, cond_true, cond_false] at h_; first | (have q_ := ih_ _ _ _ _ _ h_; (try simp only [List.length_set] at *); omega) | (cases h_; done) | (cases h_; first | rfl | simp))
        | false h3 =>
          cases h4 : h2d1 == 1 with
          | true =>
            have h4p := eq_of_beq h4
            cases h5 : decide (at12 ≥ (↑M.length : Int)) with
            | true =>
              have h5p := of_decide_eq_true h5
              (simp only [L8i.N, h1, h3, h4, h5, h2, cond_true, cond_false] at h_; first | (have q_ := ih_ _ _ _ _ _ h_; (try simp only [List.length_set] at *); omega) | (cases h_; done) | (cases h_; first | rfl | simp))
            | false =>
              have h5p := of_decide_eq_false h5
              cases h6 : (M.getD at12.toNat ByteArray.empty).toList == (gb ii.toNat).nm.toList with
              | true =>
                have h6p := str_eq h6
                (simp only [L8i.N, h1, h3, h4, h5, h6, h2, cond_true, cond_false] at h_; first | (have q_ := ih_ _ _ _ _ _ h_; (try simp only [List.length_set] at *); omega) | (cases h_; done) | (cases h_; first | rfl | simp))
              | false =>
                have h6p := str_ne h6
                (simp only [L8i.N, h1, h3, h4, h5, h6, h2, cond_true, cond_false] at h_; first | (have q_ := ih_ _ _ _ _ _ h_; (try simp only [List.length_set] at *); omega) | (cases h_; done) | (cases h_; first | rfl | simp))
          | false =>
            have h4p := ne_of_beq_false h4
            cases h5 : decide (at12 ≥ (↑M.length : Int)) with
            | true =>
              have h5p := of_decide_eq_true h5
              (simp only [L8i.N, h1, h3, h4, h5, h2, cond_true, cond_false] at h_; first | (have q_ := ih_ _ _ _ _ _ h_; (try simp only [List.length_set] at *); omega) | (cases h_; done) | (cases h_; first | rfl | simp))
            | false =>
              have h5p := of_decide_eq_false h5
              cases h6 : (M.getD at12.toNat ByteArray.empty).toList == (gb ii.toNat).nm.toList with
              | true =>
                have h6p := str_eq h6
                (simp only [L8i.N, h1, h3, h4, h5, h6, h2, cond_true, cond_false] at h_; first | (have q_ := ih_ _ _ _ _ _ h_; (try simp only [List.length_set] at *); omega) | (cases h_; done) | (cases h_; first | rfl | simp))
              | false =>
                have h6p := str_ne h6
                (simp only [L8i.N, h1, h3, h4, h5, h6, h2, cond_true, cond_false] at h_; first | (have q_ := ih_ _ _ _ _ _ h_; (try simp only [List.length_set] at *); omega) | (cases h_; done) | (cases h_; first | rfl | simp))
    | false =>
      have h1p := of_decide_eq_false h1
      (simp only [L8i.N, h1, cond_true, cond_false] at h_; first | (have q_ := ih_ _ _ _ _ _ h_; (try simp only [List.length_set] at *); omega) | (cases h_; done) | (cases h_; first | rfl | simp))

theorem L8i.leqR1_1 (n : Nat) (g : Nat → SD) (nb : Nat) (gb : Nat → BD) (m : Int) (C : List Int) (M : List ByteArray) {at12 : Int} {ii : Int} {AL : List Bool} {a0_ : Int} {a1_ : List Bool} (h_ : L8i.run n g nb gb m C M at12 ii AL = (.e1 a0_ a1_ : L8i.O)) : (a1_).length = (AL).length := L8i.leq1_1 n g nb gb m C M _ at12 ii AL a0_ a1_ h_

inductive L8d.O where
  | e0
  | e1

noncomputable def L8d.T (n : Nat) (g : Nat → SD) (C : List Int) (M : List ByteArray) (at12 : Int) (AL : List Bool) (d21 : Int) : List AV := mkT 198 [(0, sts n g), (7, AV.sl 1 C.length fun (a : Nat) => AV.int IntKind.i64 (C.getD a 0)), (9, AV.sl 1 M.length fun (a : Nat) => AV.str (M.getD a ByteArray.empty)), (11, AV.ms 0 n 1 0 n), (12, AV.int IntKind.i64 at12), (21, AV.int IntKind.i64 d21)]

noncomputable def L8d.H (n : Nat) (g : Nat → SD) (C : List Int) (M : List ByteArray) (at12 : Int) (AL : List Bool) (d21 : Int) : AHeap := [AObj.row 1 n (Col.bools AL)]

def L8d.inv (n : Nat) (g : Nat → SD) (C : List Int) (M : List ByteArray) (at12 : Int) (AL : List Bool) (d21 : Int) : Prop := 0 ≤ d21 ∧ d21 ≤ (↑C.length : Int)

noncomputable def L8d.mu (n : Nat) (g : Nat → SD) (C : List Int) (M : List ByteArray) (at12 : Int) (AL : List Bool) (d21 : Int) : Nat := ((↑C.length : Int) - d21).toNat

noncomputable def L8d.E : L8d.O → Exit
  | .e0 => Exit.ret
  | .e1 => Exit.exit 6

noncomputable def L8d.X (n : Nat) (g : Nat → SD) (C : List Int) (M : List ByteArray) (at12 : Int) (AL : List Bool) : L8d.O → List AV
  | .e0 => mkT 198 [(6, (AV.bool false))]
  | .e1 => mkT 198 [(9, (AV.sl 1 M.length fun (a : Nat) => AV.str (M.getD a ByteArray.empty))), (12, (AV.int IntKind.i64 at12))]

noncomputable def L8d.XH (n : Nat) (g : Nat → SD) (C : List Int) (M : List ByteArray) (at12 : Int) (AL : List Bool) : L8d.O → AHeap
  | .e0 => ([AObj.row 1 n (Col.bools AL)])
  | .e1 => ([AObj.row 1 n (Col.bools AL)])

noncomputable def L8d.N (n : Nat) (C : List Int) (AL : List Bool) : Nat → Int → L8d.O
  | 0, _ => .e0
  | k_ + 1, d21 => (bif decide (d21 < (↑C.length : Int)) then (bif decide (C.getD d21.toNat 0 < 0) then (.e0) else (bif decide (C.getD d21.toNat 0 ≥ (↑n : Int)) then (.e0) else (bif AL.getD (0 + (C.getD d21.toNat 0).toNat) false then (bif decide (d21 > 0) then (bif decide (C.getD (IntKind.i64.wrap (d21 - 1)).toNat 0 ≥ C.getD d21.toNat 0) then (.e0) else (L8d.N n C AL k_ (IntKind.i64.wrap (d21 + 1)))) else (L8d.N n C AL k_ (IntKind.i64.wrap (d21 + 1)))) else (.e0)))) else (.e1))

noncomputable def L8d.run (n : Nat) (C : List Int) (AL : List Bool) (d21 : Int) : L8d.O := L8d.N n C AL ((((↑C.length : Int) - d21).toNat) + 1) d21

theorem L8d.nx (n : Nat) (g : Nat → SD) (C : List Int) (M : List ByteArray) (at12 : Int) (AL : List Bool) {k_ : Nat} {z_ : Int} {h_ : AHeap} (s_ : Int) (h1 : L8d.inv n g C M at12 AL s_) (h2 : L8d.mu n g C M at12 AL s_ < L8d.mu n g C M at12 AL z_) (h3 : L8d.N n C AL k_ s_ = L8d.N n C AL (k_ + 1) z_) (h4 : PopOk (L8d.H n g C M at12 AL z_) h_ (L8d.T n g C M at12 AL s_) (L8d.H n g C M at12 AL s_)) : LNextP (fun (z_ : Int) => L8d.T n g C M at12 AL z_) (fun (z_ : Int) => L8d.H n g C M at12 AL z_) (fun (z_ : Int) => L8d.inv n g C M at12 AL z_) (fun (z_ : Int) => L8d.mu n g C M at12 AL z_) (fun (k_ : Nat) (z_ : Int) => L8d.N n C AL k_ z_) k_ z_ (L8d.T n g C M at12 AL s_) h_ := LNextP.mk (Tm := (fun (z_ : Int) => L8d.T n g C M at12 AL z_)) (Hp := (fun (z_ : Int) => L8d.H n g C M at12 AL z_)) (inv := (fun (z_ : Int) => L8d.inv n g C M at12 AL z_)) (mu := (fun (z_ : Int) => L8d.mu n g C M at12 AL z_)) (l := (fun (k_ : Nat) (z_ : Int) => L8d.N n C AL k_ z_)) s_ h1 h2 h3 h4

theorem L8d.en (n : Nat) (g : Nat → SD) (C : List Int) (M : List ByteArray) (at12 : Int) (AL : List Bool) {k_ : Nat} {z_ : Int} {h_ : AHeap} (o_ : L8d.O) (h3 : L8d.N n C AL (k_ + 1) z_ = o_) (h4 : PopOk (L8d.H n g C M at12 AL z_) h_ (L8d.X n g C M at12 AL o_) (L8d.XH n g C M at12 AL o_)) : LEndP (fun (z_ : Int) => L8d.H n g C M at12 AL z_) (fun (k_ : Nat) (z_ : Int) => L8d.N n C AL k_ z_) L8d.E (L8d.X n g C M at12 AL) (L8d.XH n g C M at12 AL) k_ z_ (L8d.E o_) (L8d.X n g C M at12 AL o_) h_ := LEndP.mk (Hp := (fun (z_ : Int) => L8d.H n g C M at12 AL z_)) (l := (fun (k_ : Nat) (z_ : Int) => L8d.N n C AL k_ z_)) (oE := L8d.E) (oT := L8d.X n g C M at12 AL) (oH := L8d.XH n g C M at12 AL) o_ h3 h4

theorem L8d.spec (n : Nat) (g : Nat → SD) (C : List Int) (M : List ByteArray) (hn : n ≤ 9223372036854775807) (hC : C.length ≤ 100) (at12 : Int) (AL : List Bool) (hAL : AL.length = n) (k_ : Nat) (z_ : Int) (hi_ : L8d.inv n g C M at12 AL z_) (hm_ : L8d.mu n g C M at12 AL z_ < k_) : LoopTo Try.prog (loopN Try.f8 3) (L8d.T n g C M at12 AL z_) (L8d.H n g C M at12 AL z_) (L8d.E (L8d.N n C AL k_ z_)) (L8d.X n g C M at12 AL (L8d.N n C AL k_ z_)) (L8d.XH n g C M at12 AL (L8d.N n C AL k_ z_)) := by
  refine LoopTo.fuelP mix (fun (z_ : Int) => L8d.T n g C M at12 AL z_) (fun (z_ : Int) => L8d.H n g C M at12 AL z_) (fun (z_ : Int) => L8d.inv n g C M at12 AL z_) (fun (z_ : Int) => L8d.mu n g C M at12 AL z_) (fun (k_ : Nat) (z_ : Int) => L8d.N n C AL k_ z_) L8d.E (L8d.X n g C M at12 AL) (L8d.XH n g C M at12 AL) (others 198 [0, 7, 9, 11, 12, 21]) (others 198 [6]) (others 198 [9, 12]) ?_ k_ z_ hi_ hm_
  clear hm_ hi_ z_ k_
  intro k_ z_ hinv hmu
  revert hinv hmu; revert z_; intro d21 hinv hmu
  have hinv : 0 ≤ d21 ∧ d21 ≤ (↑C.length : Int) := hinv
  have hmu : (((↑C.length : Int) - d21).toNat) < k_ + 1 := hmu
  cases h1 : decide (d21 < (↑C.length : Int)) with
  | true =>
    have h1p := of_decide_eq_true h1
    have o0 : (0 : Int) ≤ d21 := by first | assumption | omega | (simp_all; done)
    have o1 : d21 < (↑C.length : Int) := by first | assumption | omega | (simp only [List.length_append, List.length_cons, List.length_nil, List.length_map]; omega) | (simp_all; done)
    cases h2 : decide (C.getD d21.toNat 0 < 0) with
    | true =>
      have h2p := of_decide_eq_true h2
      exact ⟨[.b true, .b true, .b true, .b true, .b true, .b true, .b true, .b true, .b true, .b true, .b true, .b true, .b true, .b true, .b true, .b true, .b true, .b true, .b true, .b true, .b true, .b true, .b true, .b true], kmp (by kernel_rfl) (And.intro h1 (And.intro (And.intro o0 o1) (And.intro h2 (And.intro h2 (And.intro h2 (And.intro h2 (And.intro h2 (And.intro h2 (And.intro h2 (And.intro h2 (And.intro (rfl : true = true) (And.intro (rfl : true = true) (And.intro (rfl : true = true) (And.intro (rfl : true = true) (And.intro (rfl : true = true) (And.intro (rfl : true = true) (And.intro (rfl : true = true) (And.intro (rfl : true = true) (And.intro (rfl : true = true) (And.intro (rfl : true = true) (And.intro (rfl : true = true) (And.intro (rfl : true = true) (And.intro (rfl : true = true) (And.intro (rfl : true = true) (And.intro (rfl : true = true) (L8d.en n g C M at12 AL (k_ := k_) (z_ := d21) (.e0 : L8d.O) (by first | (simp only [L8d.N, h1, h2, cond_true, cond_false]; done) | (try unfold L8d.N; try simp only [h1, cond_true, cond_false]; try simp only [h2, cond_true, cond_false]; try rfl; done)) PopOk.same))))))))))))))))))))))))))⟩
    | false =>
      have h2p := of_decide_eq_false h2
      cases h3 : decide (C.getD d21.toNat 0 ≥ (↑n : Int)) with
      | true =>
        have h3p := of_decide_eq_true h3
        exact ⟨[.b true, .b false, .b false, .b false, .b false, .b false, .b false, .b false, .b false, .b true, .b true, .b true, .b true, .b true, .b true, .b true, .b true, .b true, .b true, .b true, .b true, .b true, .b true, .b true], kmp (by kernel_rfl) (And.intro h1 (And.intro (And.intro o0 o1) (And.intro h2 (And.intro h2 (And.intro h2 (And.intro (And.intro o0 o1) (And.intro h2 (And.intro h2 (And.intro h2 (And.intro h2 (And.intro h2 (And.intro h3 (And.intro h3 (And.intro h3 (And.intro h3 (And.intro h3 (And.intro h3 (And.intro h3 (And.intro h3 (And.intro h3 (And.intro (rfl : true = true) (And.intro (rfl : true = true) (And.intro (rfl : true = true) (And.intro (rfl : true = true) (And.intro (rfl : true = true) (And.intro (rfl : true = true) (L8d.en n g C M at12 AL (k_ := k_) (z_ := d21) (.e0 : L8d.O) (by first | (simp only [L8d.N, h1, h2, h3, cond_true, cond_false]; done) | (try unfold L8d.N; try simp only [h1, cond_true, cond_false]; try simp only [h2, cond_true, cond_false]; try simp only [h3, cond_true, cond_false]; try rfl; done)) PopOk.same)))))))))))))))))))))))))))⟩
      | false =>
        have h3p := of_decide_eq_false h3
        have o2 : (0 : Int) ≤ C.getD d21.toNat (0 : Int) := by first | assumption | omega | (simp_all; done)
        have o3 : C.getD d21.toNat (0 : Int) < (↑n : Int) := by first | assumption | omega | (simp_all; done)
        have o4 : (0 : Nat) + (C.getD d21.toNat (0 : Int)).toNat < (Col.bools AL).len := by first | assumption | omega | (simp only [List.length_append, List.length_cons, List.length_nil, List.length_map]; omega) | rfl | (exact Nat.le_refl _) | (simp [Col.len]; done) | (simp only [Col.len, zero_bool, zero_int, List.length_replicate, List.length_set] at *; omega) | (simp_all; done)
        cases h4 : AL.getD (0 + (C.getD d21.toNat 0).toNat) false with
        | true =>
          cases h5 : decide (d21 > 0) with
          | true =>
            have h5p := of_decide_eq_true h5
            try have := IntWalk.i64_in (d21 - 1) (by omega)
            have o5 : (0 : Int) ≤ IntKind.i64.wrap (d21 - (1 : Int)) := by first | assumption | omega | (simp_all; done)
            have o6 : IntKind.i64.wrap (d21 - (1 : Int)) < (↑C.length : Int) := by first | assumption | omega | (simp only [List.length_append, List.length_cons, List.length_nil, List.length_map]; omega) | (simp_all; done)
            cases h6 : decide (C.getD (IntKind.i64.wrap (d21 - 1)).toNat 0 ≥ C.getD d21.toNat 0) with
            | true =>
              have h6p := of_decide_eq_true h6
              exact ⟨[.b true, .b false, .b false, .b false, .b false, .b false, .b false, .b false, .b false, .b false, .b false, .b false, .b false, .b false, .b false, .b false, .b false, .b false, .b false, .b false, .b false, .b true, .b true, .b true, .b true, .b true, .b true, .b true, .b true, .b true, .b true, .b false, .b true, .b false, .b true], kmp (by kernel_rfl) (And.intro h1 (And.intro (And.intro o0 o1) (And.intro h2 (And.intro h2 (And.intro h2 (And.intro (And.intro o0 o1) (And.intro h2 (And.intro h2 (And.intro h2 (And.intro h2 (And.intro h2 (And.intro h3 (And.intro h3 (And.intro h3 (And.intro h3 (And.intro (And.intro o0 o1) (And.intro h3 (And.intro h3 (And.intro (And.intro o2 o3) (And.intro h3 (And.intro (And.intro (rfl : n = n) (And.intro (show (1 : Nat) = (1 : Nat) by first | decide | exact Int.NonNeg.mk _) o4)) (And.intro h3 (And.intro h3 (And.intro (show (bnot (AL.getD (0 + (C.getD d21.toNat 0).toNat) false)) = false by rw [h4]; try rfl) (And.intro (show (bnot (AL.getD (0 + (C.getD d21.toNat 0).toNat) false)) = false by rw [h4]; try rfl) (And.intro (show (bnot (AL.getD (0 + (C.getD d21.toNat 0).toNat) false)) = false by rw [h4]; try rfl) (And.intro h5 (And.intro h5 (And.intro h5 (And.intro h5 (And.intro (And.intro o5 o6) (And.intro h5 (And.intro h5 (And.intro h5 (And.intro h5 (And.intro (And.intro o0 o1) (And.intro h5 (And.intro h5 (And.intro (show (bnot (AL.getD (0 + (C.getD d21.toNat 0).toNat) false)) = false by rw [h4]; try rfl) (And.intro h5 (And.intro (show (bnot (AL.getD (0 + (C.getD d21.toNat 0).toNat) false)) = false by rw [h4]; try rfl) (And.intro h6 (L8d.en n g C M at12 AL (k_ := k_) (z_ := d21) (.e0 : L8d.O) (by first | (simp only [L8d.N, h1, h2, h3, h4, h5, h6, cond_true, cond_false]; done) | (try unfold L8d.N; try simp only [h1, cond_true, cond_false]; try simp only [h2, cond_true, cond_false]; try simp only [h3, cond_true, cond_false]; try simp only [h4, cond_true, cond_false]; try simp only [h5, cond_true, cond_false]; try simp only [h6, cond_true, cond_false]; try rfl; done)) PopOk.same)))))))))))))))))))))))))))))))))))))))))))⟩
            | false =>
              have h6p := of_decide_eq_false h6
              try have := IntWalk.i64_in (d21 + 1) (by omega)
              have o7 : (0 : Int) ≤ IntKind.i64.wrap (d21 + (1 : Int)) := by first | assumption | omega | (simp_all; done)
              have o8 : IntKind.i64.wrap (d21 + (1 : Int)) ≤ (↑C.length : Int) := by first | assumption | omega | (simp only [List.length_append, List.length_cons, List.length_nil, List.length_map]; omega) | (simp_all; done)
              have o9 : ((↑C.length : Int) - IntKind.i64.wrap (d21 + (1 : Int))).toNat < ((↑C.length : Int) - d21).toNat := by first | assumption | omega | (simp only [List.length_append, List.length_cons, List.length_nil, List.length_map]; omega) | (simp_all; done)
              exact ⟨[.b true, .b false, .b false, .b false, .b false, .b false, .b false, .b false, .b false, .b false, .b false, .b false, .b false, .b false, .b false, .b false, .b false, .b false, .b false, .b false, .b false, .b true, .b true, .b true, .b true, .b true, .b true, .b true, .b true, .b true, .b true, .b false, .b true, .b false, .b false], kmp (by kernel_rfl) (And.intro h1 (And.intro (And.intro o0 o1) (And.intro h2 (And.intro h2 (And.intro h2 (And.intro (And.intro o0 o1) (And.intro h2 (And.intro h2 (And.intro h2 (And.intro h2 (And.intro h2 (And.intro h3 (And.intro h3 (And.intro h3 (And.intro h3 (And.intro (And.intro o0 o1) (And.intro h3 (And.intro h3 (And.intro (And.intro o2 o3) (And.intro h3 (And.intro (And.intro (rfl : n = n) (And.intro (show (1 : Nat) = (1 : Nat) by first | decide | exact Int.NonNeg.mk _) o4)) (And.intro h3 (And.intro h3 (And.intro (show (bnot (AL.getD (0 + (C.getD d21.toNat 0).toNat) false)) = false by rw [h4]; try rfl) (And.intro (show (bnot (AL.getD (0 + (C.getD d21.toNat 0).toNat) false)) = false by rw [h4]; try rfl) (And.intro (show (bnot (AL.getD (0 + (C.getD d21.toNat 0).toNat) false)) = false by rw [h4]; try rfl) (And.intro h5 (And.intro h5 (And.intro h5 (And.intro h5 (And.intro (And.intro o5 o6) (And.intro h5 (And.intro h5 (And.intro h5 (And.intro h5 (And.intro (And.intro o0 o1) (And.intro h5 (And.intro h5 (And.intro (show (bnot (AL.getD (0 + (C.getD d21.toNat 0).toNat) false)) = false by rw [h4]; try rfl) (And.intro h5 (And.intro (show (bnot (AL.getD (0 + (C.getD d21.toNat 0).toNat) false)) = false by rw [h4]; try rfl) (And.intro h6 (L8d.nx n g C M at12 AL (k_ := k_) (z_ := d21) (IntKind.i64.wrap (d21 + 1)) (And.intro o7 o8) o9 (by first | (simp only [L8d.N, h1, h2, h3, h4, h5, h6, cond_true, cond_false]; done) | (try unfold L8d.N; try simp only [h1, cond_true, cond_false]; try simp only [h2, cond_true, cond_false]; try simp only [h3, cond_true, cond_false]; try simp only [h4, cond_true, cond_false]; try simp only [h5, cond_true, cond_false]; try simp only [h6, cond_true, cond_false]; try rfl; done)) PopOk.same)))))))))))))))))))))))))))))))))))))))))))⟩
          | false =>
            have h5p := of_decide_eq_false h5
            try have := IntWalk.i64_in (d21 + 1) (by omega)
            have o7 : (0 : Int) ≤ IntKind.i64.wrap (d21 + (1 : Int)) := by first | assumption | omega | (simp_all; done)
            have o8 : IntKind.i64.wrap (d21 + (1 : Int)) ≤ (↑C.length : Int) := by first | assumption | omega | (simp only [List.length_append, List.length_cons, List.length_nil, List.length_map]; omega) | (simp_all; done)
            have o9 : ((↑C.length : Int) - IntKind.i64.wrap (d21 + (1 : Int))).toNat < ((↑C.length : Int) - d21).toNat := by first | assumption | omega | (simp only [List.length_append, List.length_cons, List.length_nil, List.length_map]; omega) | (simp_all; done)
            exact ⟨[.b true, .b false, .b false, .b false, .b false, .b false, .b false, .b false, .b false, .b false, .b false, .b false, .b false, .b false, .b false, .b false, .b false, .b false, .b false, .b false, .b false, .b false, .b false, .b false, .b false, .b false, .b false, .b false, .b false, .b false, .b false, .b false, .b false, .b false, .b false], kmp (by kernel_rfl) (And.intro h1 (And.intro (And.intro o0 o1) (And.intro h2 (And.intro h2 (And.intro h2 (And.intro (And.intro o0 o1) (And.intro h2 (And.intro h2 (And.intro h2 (And.intro h2 (And.intro h2 (And.intro h3 (And.intro h3 (And.intro h3 (And.intro h3 (And.intro (And.intro o0 o1) (And.intro h3 (And.intro h3 (And.intro (And.intro o2 o3) (And.intro h3 (And.intro (And.intro (rfl : n = n) (And.intro (show (1 : Nat) = (1 : Nat) by first | decide | exact Int.NonNeg.mk _) o4)) (And.intro h3 (And.intro h3 (And.intro (show (bnot (AL.getD (0 + (C.getD d21.toNat 0).toNat) false)) = false by rw [h4]; try rfl) (And.intro (show (bnot (AL.getD (0 + (C.getD d21.toNat 0).toNat) false)) = false by rw [h4]; try rfl) (And.intro (show (bnot (AL.getD (0 + (C.getD d21.toNat 0).toNat) false)) = false by rw [h4]; try rfl) (And.intro h5 (And.intro h5 (And.intro h5 (And.intro h5 (And.intro h5 (And.intro h5 (And.intro h5 (And.intro h5 (And.intro h5 (And.intro h5 (And.intro (show (bnot (AL.getD (0 + (C.getD d21.toNat 0).toNat) false)) = false by rw [h4]; try rfl) (And.intro h5 (And.intro (show (bnot (AL.getD (0 + (C.getD d21.toNat 0).toNat) false)) = false by rw [h4]; try rfl) (And.intro (rfl : false = false) (L8d.nx n g C M at12 AL (k_ := k_) (z_ := d21) (IntKind.i64.wrap (d21 + 1)) (And.intro o7 o8) o9 (by first | (simp only [L8d.N, h1, h2, h3, h4, h5, cond_true, cond_false]; done) | (try unfold L8d.N; try simp only [h1, cond_true, cond_false]; try simp only [h2, cond_true, cond_false]; try simp only [h3, cond_true, cond_false]; try simp only [h4, cond_true, cond_false]; try simp only [h5, cond_true, cond_false]; try rfl; done)) PopOk.same)))))))))))))))))))))))))))))))))))))))))⟩
        | false =>
          exact ⟨[.b true, .b false, .b false, .b false, .b false, .b false, .b false, .b false, .b false, .b false, .b false, .b false, .b false, .b false, .b false, .b false, .b false, .b false, .b true, .b true, .b true, .b true, .b true, .b true], kmp (by kernel_rfl) (And.intro h1 (And.intro (And.intro o0 o1) (And.intro h2 (And.intro h2 (And.intro h2 (And.intro (And.intro o0 o1) (And.intro h2 (And.intro h2 (And.intro h2 (And.intro h2 (And.intro h2 (And.intro h3 (And.intro h3 (And.intro h3 (And.intro h3 (And.intro (And.intro o0 o1) (And.intro h3 (And.intro h3 (And.intro (And.intro o2 o3) (And.intro h3 (And.intro (And.intro (rfl : n = n) (And.intro (show (1 : Nat) = (1 : Nat) by first | decide | exact Int.NonNeg.mk _) o4)) (And.intro h3 (And.intro h3 (And.intro (show (bnot (AL.getD (0 + (C.getD d21.toNat 0).toNat) false)) = true by rw [h4]; try rfl) (And.intro (show (bnot (AL.getD (0 + (C.getD d21.toNat 0).toNat) false)) = true by rw [h4]; try rfl) (And.intro (show (bnot (AL.getD (0 + (C.getD d21.toNat 0).toNat) false)) = true by rw [h4]; try rfl) (And.intro (show (bnot (AL.getD (0 + (C.getD d21.toNat 0).toNat) false)) = true by rw [h4]; try rfl) (And.intro (show (bnot (AL.getD (0 + (C.getD d21.toNat 0).toNat) false)) = true by rw [h4]; try rfl) (And.intro (rfl : true = true) (L8d.en n g C M at12 AL (k_ := k_) (z_ := d21) (.e0 : L8d.O) (by first | (simp only [L8d.N, h1, h2, h3, h4, cond_true, cond_false]; done) | (try unfold L8d.N; try simp only [h1, cond_true, cond_false]; try simp only [h2, cond_true, cond_false]; try simp only [h3, cond_true, cond_false]; try simp only [h4, cond_true, cond_false]; try rfl; done)) PopOk.same))))))))))))))))))))))))))))))⟩
  | false =>
    have h1p := of_decide_eq_false h1
    exact ⟨[.b false], kmp (by kernel_rfl) (And.intro h1 (L8d.en n g C M at12 AL (k_ := k_) (z_ := d21) (.e1 : L8d.O) (by first | (simp only [L8d.N, h1, cond_true, cond_false]; done) | (try unfold L8d.N; try simp only [h1, cond_true, cond_false]; try rfl; done)) PopOk.same))⟩

theorem L8d.e0 (n : Nat) (g : Nat → SD) (C : List Int) (M : List ByteArray) (hn : n ≤ 9223372036854775807) (hC : C.length ≤ 100) (at12 : Int) (AL : List Bool) (hAL : AL.length = n) (d21 : Int) (hinv : L8d.inv n g C M at12 AL d21) (hN : L8d.run n C AL d21 = (.e0 : L8d.O)) : LoopTo Try.prog (loopN Try.f8 3) (L8d.T n g C M at12 AL d21) (L8d.H n g C M at12 AL d21) (Exit.ret) (L8d.X n g C M at12 AL (.e0 : L8d.O)) (L8d.XH n g C M at12 AL (.e0 : L8d.O)) := by
  have h_ := L8d.spec n g C M hn hC at12 AL hAL ((((↑C.length : Int) - d21).toNat) + 1) d21 hinv (Nat.lt_succ_self _)
  unfold L8d.run at hN
  simp only [hN] at h_
  exact h_

theorem L8d.e1 (n : Nat) (g : Nat → SD) (C : List Int) (M : List ByteArray) (hn : n ≤ 9223372036854775807) (hC : C.length ≤ 100) (at12 : Int) (AL : List Bool) (hAL : AL.length = n) (d21 : Int) (hinv : L8d.inv n g C M at12 AL d21) (hN : L8d.run n C AL d21 = (.e1 : L8d.O)) : LoopTo Try.prog (loopN Try.f8 3) (L8d.T n g C M at12 AL d21) (L8d.H n g C M at12 AL d21) (Exit.exit 6) (L8d.X n g C M at12 AL (.e1 : L8d.O)) (L8d.XH n g C M at12 AL (.e1 : L8d.O)) := by
  have h_ := L8d.spec n g C M hn hC at12 AL hAL ((((↑C.length : Int) - d21).toNat) + 1) d21 hinv (Nat.lt_succ_self _)
  unfold L8d.run at hN
  simp only [hN] at h_
  exact h_

end Go.Proofs.Ytgmppoappaolkaa

open Go

namespace Go.Proofs.Ytgmppoappaolkaa

set_option linter.unusedSimpArgs false

set_option linter.unusedVariables false

set_option maxHeartbeats 0

set_option maxRecDepth 100000

theorem idx_len {n x : Nat} : (idxL n x).length ≤ n := by
  unfold idxL
  rw [List.length_map]
  exact Nat.le_trans (List.length_filter_le _ _) (by rw [List.length_range']; exact Nat.le_refl _)

theorem bd29 {n nb : Nat} {g : Nat → SD} {gb : Nat → BD} {m : Int} (h29 : r29.v1 n g nb gb m = 0) (h19 : r19.v n g 6 = true) (h27 : r27.v nb gb 8 = true) (hn : n ≤ 9223372036854775807) : (r29.v0 n g nb gb m).length ≤ 100 := by
  have hn6 := bd19n h19
  have hb8 := bd27n h27
  cases hz : (r47.v n g nb gb m == 0) with
  | false => unfold r29.v0; rw [hz]; exact Nat.zero_le _
  | true =>
    obtain ⟨k1, k2, k3, k4, k5⟩ := ready_ok hz hn
    have hst : ∀ i, i < n → StOk (g i) := ok43s hn (ok20z (by rw [k1]; rfl))
    obtain ⟨_, _, x, _, _, e, _⟩ := cover_eq (g := g) (gb := gb) (m := m) (show n ≤ 6 by omega) (show nb ≤ 256 by omega) hst k3 k4 hz
    rw [e]
    exact Nat.le_trans idx_len (by omega)

theorem bd28 {n nb : Nat} {g : Nat → SD} {gb : Nat → BD} {m : Int} (h28 : r28.v1 n g nb gb m = 0) (h27 : r27.v nb gb 8 = true) : (r28.v0 n g nb gb m).length ≤ 100 := by
  have hb8 := bd27n h27
  unfold r28.v0
  cases hz : (r47.v n g nb gb m == 0) with
  | false => exact Nat.zero_le _
  | true =>
    cases e : L28a.run n g nb gb m 0 [] 0 with
    | e0 a b =>
      have := L28a.lenR0_1 n g nb gb m e
      simp only [List.length_nil] at this
      show b.length ≤ 100
      omega

theorem bd8iN {n : Nat} {g : Nat → SD} {nb : Nat} {gb : Nat → BD} {m : Int} {C : List Int} {M : List ByteArray} : ∀ (q : Nat) (a i : Int) (l : List Bool) (a' : Int) (l' : List Bool), L8i.N n g nb gb m C M q a i l = .e1 a' l' → l'.length = l.length := by
  intro q
  induction q with
  | zero => intro a i l a' l' h; simp only [L8i.N] at h; cases h
  | succ q ih =>
    intro a i l a' l' h
    simp only [L8i.N] at h
    cases h1 : decide (i < (nb : Int)) with
    | false => rw [h1] at h; cases h; rfl
    | true =>
      rw [h1] at h
      simp only [cond_true] at h
      cases h2 : L8k.run n g gb m C i false 0 0 0 with
      | e0 => rw [h2] at h; cases h
      | e1 s c w =>
        rw [h2] at h
        simp only at h
        cases s with
        | true =>
          simp only [cond_true] at h
          cases h3 : (c == 0) with
          | true => rw [h3] at h; cases h
          | false =>
            rw [h3] at h
            simp only [cond_false] at h
            cases h4 : (c == 1) with
            | true => rw [h4] at h; simp only [cond_true] at h; rw [ih _ _ _ _ _ h, List.length_set]
            | false => rw [h4] at h; exact ih _ _ _ _ _ h
        | false =>
          simp only [cond_false] at h
          cases h4 : (c == 1) with
          | true =>
            rw [h4] at h
            simp only [cond_true] at h
            cases h5 : decide (a ≥ (M.length : Int)) with
            | true => rw [h5] at h; cases h
            | false =>
              rw [h5] at h
              simp only [cond_false] at h
              cases h6 : ((M.getD a.toNat ByteArray.empty).toList == (gb i.toNat).nm.toList) with
              | false => rw [h6] at h; cases h
              | true => rw [h6] at h; simp only [cond_true] at h; rw [ih _ _ _ _ _ h, List.length_set]
          | false =>
            rw [h4] at h
            simp only [cond_false] at h
            cases h5 : decide (a ≥ (M.length : Int)) with
            | true => rw [h5] at h; cases h
            | false =>
              rw [h5] at h
              simp only [cond_false] at h
              cases h6 : ((M.getD a.toNat ByteArray.empty).toList == (gb i.toNat).nm.toList) with
              | false => rw [h6] at h; cases h
              | true => rw [h6] at h; exact ih _ _ _ _ _ h

theorem bd8i {n : Nat} {g : Nat → SD} {nb : Nat} {gb : Nat → BD} {m : Int} {C : List Int} {M : List ByteArray} {a i : Int} {l : List Bool} {a' : Int} {l' : List Bool} (h : L8i.run n g nb gb m C M a i l = .e1 a' l') (hl : l.length = n) : l'.length = n := (bd8iN _ _ _ _ _ _ h).trans hl

theorem rep_len {n : Nat} : (List.replicate n false).length = n := List.length_replicate

noncomputable def r8.v (n : Nat) (g : Nat → SD) (nb : Nat) (gb : Nat → BD) (m : Int) : Bool := (bif r19.v n g 6 then (bif r27.v nb gb 8 then (bif r29.v1 n g nb gb m == 0 then (bif r28.v1 n g nb gb m == 0 then (match L8i.run (↑n : Int).toNat g nb gb m (r29.v0 n g nb gb m) (r28.v0 n g nb gb m) 0 0 (List.replicate (↑n : Int).toNat false) with | .e0 h5d0 => false | .e1 h5d0 h5d1 => (match L8d.run (↑n : Int).toNat (r29.v0 n g nb gb m) h5d1 0 with | .e0 => false | .e1 => h5d0 == (↑(r28.v0 n g nb gb m).length : Int) ) ) else (bif r29.v1 n g nb gb m == r28.v1 n g nb gb m then (bif (↑(r29.v0 n g nb gb m).length : Int) == 0 then (↑(r28.v0 n g nb gb m).length : Int) == 0 else false) else false)) else (bif r29.v1 n g nb gb m == r28.v1 n g nb gb m then (bif (↑(r29.v0 n g nb gb m).length : Int) == 0 then (↑(r28.v0 n g nb gb m).length : Int) == 0 else false) else false)) else true) else true)

theorem r8 (n : Nat) (g : Nat → SD) (hn : n ≤ 9223372036854775807) (nb : Nat) (gb : Nat → BD) (hnb : nb ≤ 9223372036854775807) (m : Int) (h : AHeap) : Ret Try.prog 8 ([sts n g, blks nb gb, AV.int IntKind.i64 m]) h (AV.bool (r8.v n g nb gb m)) h := by
  try have := bd19n (by first | assumption | omega)
  try have := bd27n (by first | assumption | omega)
  try have := bd29 (by first | assumption | omega) (by first | assumption | omega) (by first | assumption | omega) (by first | assumption | omega)
  try have := bd28 (by first | assumption | omega) (by first | assumption | omega)
  try have := bd8i (by first | assumption | omega) (by first | assumption | omega)
  have o0 : n ≤ (9223372036854775807 : Nat) := by first | assumption | omega | (simp_all; done)
  cases h1 : r19.v n g 6 with
  | true =>
    try have := bd19n (by first | assumption | omega)
    try have := bd27n (by first | assumption | omega)
    try have := bd29 (by first | assumption | omega) (by first | assumption | omega) (by first | assumption | omega) (by first | assumption | omega)
    try have := bd28 (by first | assumption | omega) (by first | assumption | omega)
    try have := bd8i (by first | assumption | omega) (by first | assumption | omega)
    have o1 : nb ≤ (9223372036854775807 : Nat) := by first | assumption | omega | (simp_all; done)
    cases h2 : r27.v nb gb 8 with
    | true =>
      try have := bd19n (by first | assumption | omega)
      try have := bd27n (by first | assumption | omega)
      try have := bd29 (by first | assumption | omega) (by first | assumption | omega) (by first | assumption | omega) (by first | assumption | omega)
      try have := bd28 (by first | assumption | omega) (by first | assumption | omega)
      try have := bd8i (by first | assumption | omega) (by first | assumption | omega)
      have o2 : (↑n : Int) ≤ (6 : Int) := by first | assumption | omega | (simp_all; done)
      cases h3 : r29.v1 n g nb gb m == 0 with
      | true =>
        have h3p := eq_of_beq h3
        cases h4 : r28.v1 n g nb gb m == 0 with
        | true =>
          have h4p := eq_of_beq h4
          try have := bd19n (by first | assumption | omega)
          try have := bd27n (by first | assumption | omega)
          try have := bd29 (by first | assumption | omega) (by first | assumption | omega) (by first | assumption | omega) (by first | assumption | omega)
          try have := bd28 (by first | assumption | omega) (by first | assumption | omega)
          try have := bd8i (by first | assumption | omega) (by first | assumption | omega)
          try have := L8i.leqR0_0 _ _ _ _ _ _ _ (by assumption); (try simp only [List.length_replicate] at this)
          try have := L8i.leqR1_1 _ _ _ _ _ _ _ (by assumption); (try simp only [List.length_replicate] at this)
          have o3 : (0 : Int) ≤ (↑n : Int) := by first | assumption | omega | (simp_all; done)
          have o4 : (1 : Int) * (↑n : Int) ≤ (281474976710656 : Int) := by first | assumption | omega | (simp_all; done)
          have o5 : (↑n : Int) ≤ (9223372036854775807 : Int) := by first | assumption | omega | (simp_all; done)
          have o6 : (↑n : Int).toNat ≤ (9223372036854775807 : Nat) := by first | assumption | omega | (simp_all; done)
          have o7 : (r29.v0 n g nb gb m).length ≤ (100 : Nat) := by first | assumption | omega | (simp only [List.length_append, List.length_cons, List.length_nil, List.length_map]; omega) | (simp_all; done)
          have o8 : (r28.v0 n g nb gb m).length ≤ (100 : Nat) := by first | assumption | omega | (simp only [List.length_append, List.length_cons, List.length_nil, List.length_map]; omega) | (simp_all; done)
          have o9 : (0 : Int) ≤ (↑nb : Int) := by first | assumption | omega | (simp_all; done)
          have o10 : (List.replicate (↑n : Int).toNat false).length = (↑n : Int).toNat := by first | assumption | omega | (simp only [List.length_append, List.length_cons, List.length_nil, List.length_map]; omega) | (apply rep_len <;> first | assumption | omega) | (simp_all; done)
          cases h5 : L8i.run (↑n : Int).toNat g nb gb m (r29.v0 n g nb gb m) (r28.v0 n g nb gb m) 0 0 (List.replicate (↑n : Int).toNat false) with
          | e0 h5d0 =>
            exact Ret.of_run1 mix [(AV.bool (r8.v n g nb gb m))] Try.func8 rfl [.ret (AV.bool true) ([]), .b false, .ret (AV.bool (r19.v n g 6)) ([]), .b false, .b false, .ret (AV.bool (r27.v nb gb 8)) ([]), .b false, .b false, .b false, .ret (AV.tup [AV.sl 1 (r29.v0 n g nb gb m).length fun (a : Nat) => AV.int IntKind.i64 ((r29.v0 n g nb gb m).getD a 0), AV.int IntKind.i64 (r29.v1 n g nb gb m)]) ([]), .ret (AV.tup [AV.sl 1 (r28.v0 n g nb gb m).length fun (a : Nat) => AV.str ((r28.v0 n g nb gb m).getD a ByteArray.empty), AV.int IntKind.i64 (r28.v1 n g nb gb m)]) ([]), .b false, .b false, .b false, .b false, .loop (others 198 [0, 1, 2, 7, 9, 11, 12, 13]) (Exit.ret) (L8i.X (↑n : Int).toNat g nb gb m (r29.v0 n g nb gb m) (r28.v0 n g nb gb m) (L8i.O.e0 h5d0)) (L8i.XH (↑n : Int).toNat g nb gb m (r29.v0 n g nb gb m) (r28.v0 n g nb gb m) (L8i.O.e0 h5d0))] (by simp) (by simp) (kmp (by kernel_rfl) (And.intro (r11 ([])) (And.intro (rfl : false = false) (And.intro (r19 (n) (g) (6) o0 ([])) (And.intro (show (bnot (r19.v n g 6)) = false by rw [h1]; try rfl) (And.intro (show (bnot (r19.v n g 6)) = false by rw [h1]; try rfl) (And.intro (r27 (nb) (gb) o1 (8) ([])) (And.intro (show (bnot (r19.v n g 6)) = false by rw [h1]; try rfl) (And.intro (show (bnot (r19.v n g 6)) = false by rw [h1]; try rfl) (And.intro (show (bnot (r27.v nb gb 8)) = false by rw [h2]; try rfl) (And.intro (r29 (n) (g) o2 (nb) (gb) o1 (m) ([])) (And.intro (r28 (n) (g) o0 (nb) (gb) o1 (m) ([])) (And.intro (show (bnot (r29.v1 n g nb gb m == 0)) = false by rw [h3]; try rfl) (And.intro (show (bnot (r29.v1 n g nb gb m == 0)) = false by rw [h3]; try rfl) (And.intro (show (bnot (r29.v1 n g nb gb m == 0)) = false by rw [h3]; try rfl) (And.intro (show (bnot (r28.v1 n g nb gb m == 0)) = false by rw [h4]; try rfl) (And.intro (And.intro (rfl : (↑n : Int) = (↑n : Int)) (And.intro o3 (And.intro o4 o5))) (And.intro (L8i.e0 ((↑n : Int).toNat) (g) (nb) (gb) (m) (r29.v0 n g nb gb m) (r28.v0 n g nb gb m) o6 o1 o7 o8 (0) (0) (List.replicate (↑n : Int).toNat false) (And.intro (show (0 : Int) ≤ (0 : Int) by first | decide | exact Int.NonNeg.mk _) (And.intro o9 (And.intro o10 (show (0 : Int) ≤ (0 : Int) by first | decide | exact Int.NonNeg.mk _)))) h5d0 h5) (And.intro (show (AV.bool false) = ((AV.bool (r8.v n g nb gb m))) by first | (simp only [r8.v, h1, h2, h3, h4, h5, cond_true, cond_false]; done) | (try unfold r8.v; try simp only [h1, cond_true, cond_false]; try simp only [h2, cond_true, cond_false]; try simp only [h3, cond_true, cond_false]; try simp only [h4, cond_true, cond_false]; try simp only [h5, cond_true, cond_false]; try rfl; done) | rfl) trivial))))))))))))))))))) h
          | e1 h5d0 h5d1 =>
            try have := bd19n (by first | assumption | omega)
            try have := bd27n (by first | assumption | omega)
            try have := bd29 (by first | assumption | omega) (by first | assumption | omega) (by first | assumption | omega) (by first | assumption | omega)
            try have := bd28 (by first | assumption | omega) (by first | assumption | omega)
            try have := bd8i (by first | assumption | omega) (by first | assumption | omega)
            try have := L8i.leqR0_0 _ _ _ _ _ _ _ (by assumption); (try simp only [List.length_replicate] at this)
            try have := L8i.leqR1_1 _ _ _ _ _ _ _ (by assumption); (try simp only [List.length_replicate] at this)
            have o11 : h5d1.length = (↑n : Int).toNat := by first | assumption | omega | (simp only [List.length_append, List.length_cons, List.length_nil, List.length_map]; omega) | (simp_all; done)
            have o12 : (0 : Int) ≤ (↑(r29.v0 n g nb gb m).length : Int) := by first | assumption | omega | (simp only [List.length_append, List.length_cons, List.length_nil, List.length_map]; omega) | (simp_all; done)
            cases h6 : L8d.run (↑n : Int).toNat (r29.v0 n g nb gb m) h5d1 0 with
            | e0 =>
              exact Ret.of_run1 mix [(AV.bool (r8.v n g nb gb m))] Try.func8 rfl [.ret (AV.bool true) ([]), .b false, .ret (AV.bool (r19.v n g 6)) ([]), .b false, .b false, .ret (AV.bool (r27.v nb gb 8)) ([]), .b false, .b false, .b false, .ret (AV.tup [AV.sl 1 (r29.v0 n g nb gb m).length fun (a : Nat) => AV.int IntKind.i64 ((r29.v0 n g nb gb m).getD a 0), AV.int IntKind.i64 (r29.v1 n g nb gb m)]) ([]), .ret (AV.tup [AV.sl 1 (r28.v0 n g nb gb m).length fun (a : Nat) => AV.str ((r28.v0 n g nb gb m).getD a ByteArray.empty), AV.int IntKind.i64 (r28.v1 n g nb gb m)]) ([]), .b false, .b false, .b false, .b false, .loop (others 198 [0, 1, 2, 7, 9, 11, 12, 13]) (Exit.exit 0) (L8i.X (↑n : Int).toNat g nb gb m (r29.v0 n g nb gb m) (r28.v0 n g nb gb m) (L8i.O.e1 h5d0 h5d1)) (L8i.XH (↑n : Int).toNat g nb gb m (r29.v0 n g nb gb m) (r28.v0 n g nb gb m) (L8i.O.e1 h5d0 h5d1)), .loop (others 198 [0, 7, 9, 11, 12, 21]) (Exit.ret) (L8d.X (↑n : Int).toNat g (r29.v0 n g nb gb m) (r28.v0 n g nb gb m) h5d0 h5d1 L8d.O.e0) (L8d.XH (↑n : Int).toNat g (r29.v0 n g nb gb m) (r28.v0 n g nb gb m) h5d0 h5d1 L8d.O.e0)] (by simp) (by simp) (kmp (by kernel_rfl) (And.intro (r11 ([])) (And.intro (rfl : false = false) (And.intro (r19 (n) (g) (6) o0 ([])) (And.intro (show (bnot (r19.v n g 6)) = false by rw [h1]; try rfl) (And.intro (show (bnot (r19.v n g 6)) = false by rw [h1]; try rfl) (And.intro (r27 (nb) (gb) o1 (8) ([])) (And.intro (show (bnot (r19.v n g 6)) = false by rw [h1]; try rfl) (And.intro (show (bnot (r19.v n g 6)) = false by rw [h1]; try rfl) (And.intro (show (bnot (r27.v nb gb 8)) = false by rw [h2]; try rfl) (And.intro (r29 (n) (g) o2 (nb) (gb) o1 (m) ([])) (And.intro (r28 (n) (g) o0 (nb) (gb) o1 (m) ([])) (And.intro (show (bnot (r29.v1 n g nb gb m == 0)) = false by rw [h3]; try rfl) (And.intro (show (bnot (r29.v1 n g nb gb m == 0)) = false by rw [h3]; try rfl) (And.intro (show (bnot (r29.v1 n g nb gb m == 0)) = false by rw [h3]; try rfl) (And.intro (show (bnot (r28.v1 n g nb gb m == 0)) = false by rw [h4]; try rfl) (And.intro (And.intro (rfl : (↑n : Int) = (↑n : Int)) (And.intro o3 (And.intro o4 o5))) (And.intro (L8i.e1 ((↑n : Int).toNat) (g) (nb) (gb) (m) (r29.v0 n g nb gb m) (r28.v0 n g nb gb m) o6 o1 o7 o8 (0) (0) (List.replicate (↑n : Int).toNat false) (And.intro (show (0 : Int) ≤ (0 : Int) by first | decide | exact Int.NonNeg.mk _) (And.intro o9 (And.intro o10 (show (0 : Int) ≤ (0 : Int) by first | decide | exact Int.NonNeg.mk _)))) h5d0 h5d1 h5) (And.intro (L8d.e0 ((↑n : Int).toNat) (g) (r29.v0 n g nb gb m) (r28.v0 n g nb gb m) o6 o7 (h5d0) (h5d1) o11 (0) (And.intro (show (0 : Int) ≤ (0 : Int) by first | decide | exact Int.NonNeg.mk _) o12) h6) (And.intro (show (AV.bool false) = ((AV.bool (r8.v n g nb gb m))) by first | (simp only [r8.v, h1, h2, h3, h4, h5, h6, cond_true, cond_false]; done) | (try unfold r8.v; try simp only [h1, cond_true, cond_false]; try simp only [h2, cond_true, cond_false]; try simp only [h3, cond_true, cond_false]; try simp only [h4, cond_true, cond_false]; try simp only [h5, cond_true, cond_false]; try simp only [h6, cond_true, cond_false]; try rfl; done) | rfl) trivial)))))))))))))))))))) h
            | e1 =>
              exact Ret.of_run1 mix [(AV.bool (r8.v n g nb gb m))] Try.func8 rfl [.ret (AV.bool true) ([]), .b false, .ret (AV.bool (r19.v n g 6)) ([]), .b false, .b false, .ret (AV.bool (r27.v nb gb 8)) ([]), .b false, .b false, .b false, .ret (AV.tup [AV.sl 1 (r29.v0 n g nb gb m).length fun (a : Nat) => AV.int IntKind.i64 ((r29.v0 n g nb gb m).getD a 0), AV.int IntKind.i64 (r29.v1 n g nb gb m)]) ([]), .ret (AV.tup [AV.sl 1 (r28.v0 n g nb gb m).length fun (a : Nat) => AV.str ((r28.v0 n g nb gb m).getD a ByteArray.empty), AV.int IntKind.i64 (r28.v1 n g nb gb m)]) ([]), .b false, .b false, .b false, .b false, .loop (others 198 [0, 1, 2, 7, 9, 11, 12, 13]) (Exit.exit 0) (L8i.X (↑n : Int).toNat g nb gb m (r29.v0 n g nb gb m) (r28.v0 n g nb gb m) (L8i.O.e1 h5d0 h5d1)) (L8i.XH (↑n : Int).toNat g nb gb m (r29.v0 n g nb gb m) (r28.v0 n g nb gb m) (L8i.O.e1 h5d0 h5d1)), .loop (others 198 [0, 7, 9, 11, 12, 21]) (Exit.exit 6) (L8d.X (↑n : Int).toNat g (r29.v0 n g nb gb m) (r28.v0 n g nb gb m) h5d0 h5d1 L8d.O.e1) (L8d.XH (↑n : Int).toNat g (r29.v0 n g nb gb m) (r28.v0 n g nb gb m) h5d0 h5d1 L8d.O.e1)] (by simp) (by simp) (kmp (by kernel_rfl) (And.intro (r11 ([])) (And.intro (rfl : false = false) (And.intro (r19 (n) (g) (6) o0 ([])) (And.intro (show (bnot (r19.v n g 6)) = false by rw [h1]; try rfl) (And.intro (show (bnot (r19.v n g 6)) = false by rw [h1]; try rfl) (And.intro (r27 (nb) (gb) o1 (8) ([])) (And.intro (show (bnot (r19.v n g 6)) = false by rw [h1]; try rfl) (And.intro (show (bnot (r19.v n g 6)) = false by rw [h1]; try rfl) (And.intro (show (bnot (r27.v nb gb 8)) = false by rw [h2]; try rfl) (And.intro (r29 (n) (g) o2 (nb) (gb) o1 (m) ([])) (And.intro (r28 (n) (g) o0 (nb) (gb) o1 (m) ([])) (And.intro (show (bnot (r29.v1 n g nb gb m == 0)) = false by rw [h3]; try rfl) (And.intro (show (bnot (r29.v1 n g nb gb m == 0)) = false by rw [h3]; try rfl) (And.intro (show (bnot (r29.v1 n g nb gb m == 0)) = false by rw [h3]; try rfl) (And.intro (show (bnot (r28.v1 n g nb gb m == 0)) = false by rw [h4]; try rfl) (And.intro (And.intro (rfl : (↑n : Int) = (↑n : Int)) (And.intro o3 (And.intro o4 o5))) (And.intro (L8i.e1 ((↑n : Int).toNat) (g) (nb) (gb) (m) (r29.v0 n g nb gb m) (r28.v0 n g nb gb m) o6 o1 o7 o8 (0) (0) (List.replicate (↑n : Int).toNat false) (And.intro (show (0 : Int) ≤ (0 : Int) by first | decide | exact Int.NonNeg.mk _) (And.intro o9 (And.intro o10 (show (0 : Int) ≤ (0 : Int) by first | decide | exact Int.NonNeg.mk _)))) h5d0 h5d1 h5) (And.intro (L8d.e1 ((↑n : Int).toNat) (g) (r29.v0 n g nb gb m) (r28.v0 n g nb gb m) o6 o7 (h5d0) (h5d1) o11 (0) (And.intro (show (0 : Int) ≤ (0 : Int) by first | decide | exact Int.NonNeg.mk _) o12) h6) (And.intro (show (AV.bool (h5d0 == (↑(r28.v0 n g nb gb m).length : Int))) = ((AV.bool (r8.v n g nb gb m))) by first | (simp only [r8.v, h1, h2, h3, h4, h5, h6, cond_true, cond_false]; done) | (try unfold r8.v; try simp only [h1, cond_true, cond_false]; try simp only [h2, cond_true, cond_false]; try simp only [h3, cond_true, cond_false]; try simp only [h4, cond_true, cond_false]; try simp only [h5, cond_true, cond_false]; try simp only [h6, cond_true, cond_false]; try rfl; done) | rfl) trivial)))))))))))))))))))) h
        | false =>
          have h4p := ne_of_beq_false h4
          cases h5 : r29.v1 n g nb gb m == r28.v1 n g nb gb m with
          | true =>
            have h5p := eq_of_beq h5
            cases h6 : (↑(r29.v0 n g nb gb m).length : Int) == 0 with
            | true =>
              have h6p := eq_of_beq h6
              exact Ret.of_run1 mix [(AV.bool (r8.v n g nb gb m))] Try.func8 rfl [.ret (AV.bool true) ([]), .b false, .ret (AV.bool (r19.v n g 6)) ([]), .b false, .b false, .ret (AV.bool (r27.v nb gb 8)) ([]), .b false, .b false, .b false, .ret (AV.tup [AV.sl 1 (r29.v0 n g nb gb m).length fun (a : Nat) => AV.int IntKind.i64 ((r29.v0 n g nb gb m).getD a 0), AV.int IntKind.i64 (r29.v1 n g nb gb m)]) ([]), .ret (AV.tup [AV.sl 1 (r28.v0 n g nb gb m).length fun (a : Nat) => AV.str ((r28.v0 n g nb gb m).getD a ByteArray.empty), AV.int IntKind.i64 (r28.v1 n g nb gb m)]) ([]), .b false, .b false, .b false, .b true, .b true, .b true, .b true, .b true, .b true, .b true, .b true, .b true] (by simp) (by simp) (kmp (by kernel_rfl) (And.intro (r11 ([])) (And.intro (rfl : false = false) (And.intro (r19 (n) (g) (6) o0 ([])) (And.intro (show (bnot (r19.v n g 6)) = false by rw [h1]; try rfl) (And.intro (show (bnot (r19.v n g 6)) = false by rw [h1]; try rfl) (And.intro (r27 (nb) (gb) o1 (8) ([])) (And.intro (show (bnot (r19.v n g 6)) = false by rw [h1]; try rfl) (And.intro (show (bnot (r19.v n g 6)) = false by rw [h1]; try rfl) (And.intro (show (bnot (r27.v nb gb 8)) = false by rw [h2]; try rfl) (And.intro (r29 (n) (g) o2 (nb) (gb) o1 (m) ([])) (And.intro (r28 (n) (g) o0 (nb) (gb) o1 (m) ([])) (And.intro (show (bnot (r29.v1 n g nb gb m == 0)) = false by rw [h3]; try rfl) (And.intro (show (bnot (r29.v1 n g nb gb m == 0)) = false by rw [h3]; try rfl) (And.intro (show (bnot (r29.v1 n g nb gb m == 0)) = false by rw [h3]; try rfl) (And.intro (show (bnot (r28.v1 n g nb gb m == 0)) = true by rw [h4]; try rfl) (And.intro h5 (And.intro h5 (And.intro h5 (And.intro h5 (And.intro h6 (And.intro h6 (And.intro h6 (And.intro h6 (And.intro (show (AV.bool ((↑(r28.v0 n g nb gb m).length : Int) == 0)) = ((AV.bool (r8.v n g nb gb m))) by first | (simp only [r8.v, h1, h2, h3, h4, h5, h6, cond_true, cond_false]; done) | (try unfold r8.v; try simp only [h1, cond_true, cond_false]; try simp only [h2, cond_true, cond_false]; try simp only [h3, cond_true, cond_false]; try simp only [h4, cond_true, cond_false]; try simp only [h5, cond_true, cond_false]; try simp only [h6, cond_true, cond_false]; try rfl; done) | rfl) trivial))))))))))))))))))))))))) h
            | false =>
              have h6p := ne_of_beq_false h6
              exact Ret.of_run1 mix [(AV.bool (r8.v n g nb gb m))] Try.func8 rfl [.ret (AV.bool true) ([]), .b false, .ret (AV.bool (r19.v n g 6)) ([]), .b false, .b false, .ret (AV.bool (r27.v nb gb 8)) ([]), .b false, .b false, .b false, .ret (AV.tup [AV.sl 1 (r29.v0 n g nb gb m).length fun (a : Nat) => AV.int IntKind.i64 ((r29.v0 n g nb gb m).getD a 0), AV.int IntKind.i64 (r29.v1 n g nb gb m)]) ([]), .ret (AV.tup [AV.sl 1 (r28.v0 n g nb gb m).length fun (a : Nat) => AV.str ((r28.v0 n g nb gb m).getD a ByteArray.empty), AV.int IntKind.i64 (r28.v1 n g nb gb m)]) ([]), .b false, .b false, .b false, .b true, .b true, .b true, .b true, .b true, .b false, .b false, .b false, .b false] (by simp) (by simp) (kmp (by kernel_rfl) (And.intro (r11 ([])) (And.intro (rfl : false = false) (And.intro (r19 (n) (g) (6) o0 ([])) (And.intro (show (bnot (r19.v n g 6)) = false by rw [h1]; try rfl) (And.intro (show (bnot (r19.v n g 6)) = false by rw [h1]; try rfl) (And.intro (r27 (nb) (gb) o1 (8) ([])) (And.intro (show (bnot (r19.v n g 6)) = false by rw [h1]; try rfl) (And.intro (show (bnot (r19.v n g 6)) = false by rw [h1]; try rfl) (And.intro (show (bnot (r27.v nb gb 8)) = false by rw [h2]; try rfl) (And.intro (r29 (n) (g) o2 (nb) (gb) o1 (m) ([])) (And.intro (r28 (n) (g) o0 (nb) (gb) o1 (m) ([])) (And.intro (show (bnot (r29.v1 n g nb gb m == 0)) = false by rw [h3]; try rfl) (And.intro (show (bnot (r29.v1 n g nb gb m == 0)) = false by rw [h3]; try rfl) (And.intro (show (bnot (r29.v1 n g nb gb m == 0)) = false by rw [h3]; try rfl) (And.intro (show (bnot (r28.v1 n g nb gb m == 0)) = true by rw [h4]; try rfl) (And.intro h5 (And.intro h5 (And.intro h5 (And.intro h5 (And.intro h6 (And.intro h6 (And.intro h6 (And.intro h6 (And.intro (show (AV.bool false) = ((AV.bool (r8.v n g nb gb m))) by first | (simp only [r8.v, h1, h2, h3, h4, h5, h6, cond_true, cond_false]; done) | (try unfold r8.v; try simp only [h1, cond_true, cond_false]; try simp only [h2, cond_true, cond_false]; try simp only [h3, cond_true, cond_false]; try simp only [h4, cond_true, cond_false]; try simp only [h5, cond_true, cond_false]; try simp only [h6, cond_true, cond_false]; try rfl; done) | rfl) trivial))))))))))))))))))))))))) h
          | false =>
            have h5p := ne_of_beq_false h5
            exact Ret.of_run1 mix [(AV.bool (r8.v n g nb gb m))] Try.func8 rfl [.ret (AV.bool true) ([]), .b false, .ret (AV.bool (r19.v n g 6)) ([]), .b false, .b false, .ret (AV.bool (r27.v nb gb 8)) ([]), .b false, .b false, .b false, .ret (AV.tup [AV.sl 1 (r29.v0 n g nb gb m).length fun (a : Nat) => AV.int IntKind.i64 ((r29.v0 n g nb gb m).getD a 0), AV.int IntKind.i64 (r29.v1 n g nb gb m)]) ([]), .ret (AV.tup [AV.sl 1 (r28.v0 n g nb gb m).length fun (a : Nat) => AV.str ((r28.v0 n g nb gb m).getD a ByteArray.empty), AV.int IntKind.i64 (r28.v1 n g nb gb m)]) ([]), .b false, .b false, .b false, .b true, .b false, .b false, .b false, .b false, .b false, .b false, .b false, .b false] (by simp) (by simp) (kmp (by kernel_rfl) (And.intro (r11 ([])) (And.intro (rfl : false = false) (And.intro (r19 (n) (g) (6) o0 ([])) (And.intro (show (bnot (r19.v n g 6)) = false by rw [h1]; try rfl) (And.intro (show (bnot (r19.v n g 6)) = false by rw [h1]; try rfl) (And.intro (r27 (nb) (gb) o1 (8) ([])) (And.intro (show (bnot (r19.v n g 6)) = false by rw [h1]; try rfl) (And.intro (show (bnot (r19.v n g 6)) = false by rw [h1]; try rfl) (And.intro (show (bnot (r27.v nb gb 8)) = false by rw [h2]; try rfl) (And.intro (r29 (n) (g) o2 (nb) (gb) o1 (m) ([])) (And.intro (r28 (n) (g) o0 (nb) (gb) o1 (m) ([])) (And.intro (show (bnot (r29.v1 n g nb gb m == 0)) = false by rw [h3]; try rfl) (And.intro (show (bnot (r29.v1 n g nb gb m == 0)) = false by rw [h3]; try rfl) (And.intro (show (bnot (r29.v1 n g nb gb m == 0)) = false by rw [h3]; try rfl) (And.intro (show (bnot (r28.v1 n g nb gb m == 0)) = true by rw [h4]; try rfl) (And.intro h5 (And.intro h5 (And.intro h5 (And.intro h5 (And.intro (rfl : false = false) (And.intro (rfl : false = false) (And.intro (rfl : false = false) (And.intro (rfl : false = false) (And.intro (show (AV.bool false) = ((AV.bool (r8.v n g nb gb m))) by first | (simp only [r8.v, h1, h2, h3, h4, h5, cond_true, cond_false]; done) | (try unfold r8.v; try simp only [h1, cond_true, cond_false]; try simp only [h2, cond_true, cond_false]; try simp only [h3, cond_true, cond_false]; try simp only [h4, cond_true, cond_false]; try simp only [h5, cond_true, cond_false]; try rfl; done) | rfl) trivial))))))))))))))))))))))))) h
      | false =>
        have h3p := ne_of_beq_false h3
        cases h4 : r29.v1 n g nb gb m == r28.v1 n g nb gb m with
        | true =>
          have h4p := eq_of_beq h4
          cases h5 : (↑(r29.v0 n g nb gb m).length : Int) == 0 with
          | true =>
            have h5p := eq_of_beq h5
            exact Ret.of_run1 mix [(AV.bool (r8.v n g nb gb m))] Try.func8 rfl [.ret (AV.bool true) ([]), .b false, .ret (AV.bool (r19.v n g 6)) ([]), .b false, .b false, .ret (AV.bool (r27.v nb gb 8)) ([]), .b false, .b false, .b false, .ret (AV.tup [AV.sl 1 (r29.v0 n g nb gb m).length fun (a : Nat) => AV.int IntKind.i64 ((r29.v0 n g nb gb m).getD a 0), AV.int IntKind.i64 (r29.v1 n g nb gb m)]) ([]), .ret (AV.tup [AV.sl 1 (r28.v0 n g nb gb m).length fun (a : Nat) => AV.str ((r28.v0 n g nb gb m).getD a ByteArray.empty), AV.int IntKind.i64 (r28.v1 n g nb gb m)]) ([]), .b true, .b true, .b true, .b true, .b true, .b true, .b true, .b true, .b true, .b true, .b true, .b true] (by simp) (by simp) (kmp (by kernel_rfl) (And.intro (r11 ([])) (And.intro (rfl : false = false) (And.intro (r19 (n) (g) (6) o0 ([])) (And.intro (show (bnot (r19.v n g 6)) = false by rw [h1]; try rfl) (And.intro (show (bnot (r19.v n g 6)) = false by rw [h1]; try rfl) (And.intro (r27 (nb) (gb) o1 (8) ([])) (And.intro (show (bnot (r19.v n g 6)) = false by rw [h1]; try rfl) (And.intro (show (bnot (r19.v n g 6)) = false by rw [h1]; try rfl) (And.intro (show (bnot (r27.v nb gb 8)) = false by rw [h2]; try rfl) (And.intro (r29 (n) (g) o2 (nb) (gb) o1 (m) ([])) (And.intro (r28 (n) (g) o0 (nb) (gb) o1 (m) ([])) (And.intro (show (bnot (r29.v1 n g nb gb m == 0)) = true by rw [h3]; try rfl) (And.intro (show (bnot (r29.v1 n g nb gb m == 0)) = true by rw [h3]; try rfl) (And.intro (show (bnot (r29.v1 n g nb gb m == 0)) = true by rw [h3]; try rfl) (And.intro (rfl : true = true) (And.intro h4 (And.intro h4 (And.intro h4 (And.intro h4 (And.intro h5 (And.intro h5 (And.intro h5 (And.intro h5 (And.intro (show (AV.bool ((↑(r28.v0 n g nb gb m).length : Int) == 0)) = ((AV.bool (r8.v n g nb gb m))) by first | (simp only [r8.v, h1, h2, h3, h4, h5, cond_true, cond_false]; done) | (try unfold r8.v; try simp only [h1, cond_true, cond_false]; try simp only [h2, cond_true, cond_false]; try simp only [h3, cond_true, cond_false]; try simp only [h4, cond_true, cond_false]; try simp only [h5, cond_true, cond_false]; try rfl; done) | rfl) trivial))))))))))))))))))))))))) h
          | false =>
            have h5p := ne_of_beq_false h5
            exact Ret.of_run1 mix [(AV.bool (r8.v n g nb gb m))] Try.func8 rfl [.ret (AV.bool true) ([]), .b false, .ret (AV.bool (r19.v n g 6)) ([]), .b false, .b false, .ret (AV.bool (r27.v nb gb 8)) ([]), .b false, .b false, .b false, .ret (AV.tup [AV.sl 1 (r29.v0 n g nb gb m).length fun (a : Nat) => AV.int IntKind.i64 ((r29.v0 n g nb gb m).getD a 0), AV.int IntKind.i64 (r29.v1 n g nb gb m)]) ([]), .ret (AV.tup [AV.sl 1 (r28.v0 n g nb gb m).length fun (a : Nat) => AV.str ((r28.v0 n g nb gb m).getD a ByteArray.empty), AV.int IntKind.i64 (r28.v1 n g nb gb m)]) ([]), .b true, .b true, .b true, .b true, .b true, .b true, .b true, .b true, .b false, .b false, .b false, .b false] (by simp) (by simp) (kmp (by kernel_rfl) (And.intro (r11 ([])) (And.intro (rfl : false = false) (And.intro (r19 (n) (g) (6) o0 ([])) (And.intro (show (bnot (r19.v n g 6)) = false by rw [h1]; try rfl) (And.intro (show (bnot (r19.v n g 6)) = false by rw [h1]; try rfl) (And.intro (r27 (nb) (gb) o1 (8) ([])) (And.intro (show (bnot (r19.v n g 6)) = false by rw [h1]; try rfl) (And.intro (show (bnot (r19.v n g 6)) = false by rw [h1]; try rfl) (And.intro (show (bnot (r27.v nb gb 8)) = false by rw [h2]; try rfl) (And.intro (r29 (n) (g) o2 (nb) (gb) o1 (m) ([])) (And.intro (r28 (n) (g) o0 (nb) (gb) o1 (m) ([])) (And.intro (show (bnot (r29.v1 n g nb gb m == 0)) = true by rw [h3]; try rfl) (And.intro (show (bnot (r29.v1 n g nb gb m == 0)) = true by rw [h3]; try rfl) (And.intro (show (bnot (r29.v1 n g nb gb m == 0)) = true by rw [h3]; try rfl) (And.intro (rfl : true = true) (And.intro h4 (And.intro h4 (And.intro h4 (And.intro h4 (And.intro h5 (And.intro h5 (And.intro h5 (And.intro h5 (And.intro (show (AV.bool false) = ((AV.bool (r8.v n g nb gb m))) by first | (simp only [r8.v, h1, h2, h3, h4, h5, cond_true, cond_false]; done) | (try unfold r8.v; try simp only [h1, cond_true, cond_false]; try simp only [h2, cond_true, cond_false]; try simp only [h3, cond_true, cond_false]; try simp only [h4, cond_true, cond_false]; try simp only [h5, cond_true, cond_false]; try rfl; done) | rfl) trivial))))))))))))))))))))))))) h
        | false =>
          have h4p := ne_of_beq_false h4
          exact Ret.of_run1 mix [(AV.bool (r8.v n g nb gb m))] Try.func8 rfl [.ret (AV.bool true) ([]), .b false, .ret (AV.bool (r19.v n g 6)) ([]), .b false, .b false, .ret (AV.bool (r27.v nb gb 8)) ([]), .b false, .b false, .b false, .ret (AV.tup [AV.sl 1 (r29.v0 n g nb gb m).length fun (a : Nat) => AV.int IntKind.i64 ((r29.v0 n g nb gb m).getD a 0), AV.int IntKind.i64 (r29.v1 n g nb gb m)]) ([]), .ret (AV.tup [AV.sl 1 (r28.v0 n g nb gb m).length fun (a : Nat) => AV.str ((r28.v0 n g nb gb m).getD a ByteArray.empty), AV.int IntKind.i64 (r28.v1 n g nb gb m)]) ([]), .b true, .b true, .b true, .b true, .b false, .b false, .b false, .b false, .b false, .b false, .b false, .b false] (by simp) (by simp) (kmp (by kernel_rfl) (And.intro (r11 ([])) (And.intro (rfl : false = false) (And.intro (r19 (n) (g) (6) o0 ([])) (And.intro (show (bnot (r19.v n g 6)) = false by rw [h1]; try rfl) (And.intro (show (bnot (r19.v n g 6)) = false by rw [h1]; try rfl) (And.intro (r27 (nb) (gb) o1 (8) ([])) (And.intro (show (bnot (r19.v n g 6)) = false by rw [h1]; try rfl) (And.intro (show (bnot (r19.v n g 6)) = false by rw [h1]; try rfl) (And.intro (show (bnot (r27.v nb gb 8)) = false by rw [h2]; try rfl) (And.intro (r29 (n) (g) o2 (nb) (gb) o1 (m) ([])) (And.intro (r28 (n) (g) o0 (nb) (gb) o1 (m) ([])) (And.intro (show (bnot (r29.v1 n g nb gb m == 0)) = true by rw [h3]; try rfl) (And.intro (show (bnot (r29.v1 n g nb gb m == 0)) = true by rw [h3]; try rfl) (And.intro (show (bnot (r29.v1 n g nb gb m == 0)) = true by rw [h3]; try rfl) (And.intro (rfl : true = true) (And.intro h4 (And.intro h4 (And.intro h4 (And.intro h4 (And.intro (rfl : false = false) (And.intro (rfl : false = false) (And.intro (rfl : false = false) (And.intro (rfl : false = false) (And.intro (show (AV.bool false) = ((AV.bool (r8.v n g nb gb m))) by first | (simp only [r8.v, h1, h2, h3, h4, cond_true, cond_false]; done) | (try unfold r8.v; try simp only [h1, cond_true, cond_false]; try simp only [h2, cond_true, cond_false]; try simp only [h3, cond_true, cond_false]; try simp only [h4, cond_true, cond_false]; try rfl; done) | rfl) trivial))))))))))))))))))))))))) h
    | false =>
      exact Ret.of_run1 mix [(AV.bool (r8.v n g nb gb m))] Try.func8 rfl [.ret (AV.bool true) ([]), .b false, .ret (AV.bool (r19.v n g 6)) ([]), .b false, .b false, .ret (AV.bool (r27.v nb gb 8)) ([]), .b false, .b false, .b true] (by simp) (by simp) (kmp (by kernel_rfl) (And.intro (r11 ([])) (And.intro (rfl : false = false) (And.intro (r19 (n) (g) (6) o0 ([])) (And.intro (show (bnot (r19.v n g 6)) = false by rw [h1]; try rfl) (And.intro (show (bnot (r19.v n g 6)) = false by rw [h1]; try rfl) (And.intro (r27 (nb) (gb) o1 (8) ([])) (And.intro (show (bnot (r19.v n g 6)) = false by rw [h1]; try rfl) (And.intro (show (bnot (r19.v n g 6)) = false by rw [h1]; try rfl) (And.intro (show (bnot (r27.v nb gb 8)) = true by rw [h2]; try rfl) (And.intro (show (AV.bool true) = ((AV.bool (r8.v n g nb gb m))) by first | (simp only [r8.v, h1, h2, cond_true, cond_false]; done) | (try unfold r8.v; try simp only [h1, cond_true, cond_false]; try simp only [h2, cond_true, cond_false]; try rfl; done) | rfl) trivial))))))))))) h
  | false =>
    exact Ret.of_run1 mix [(AV.bool (r8.v n g nb gb m))] Try.func8 rfl [.ret (AV.bool true) ([]), .b false, .ret (AV.bool (r19.v n g 6)) ([]), .b true, .b true, .b true, .b true, .b true] (by simp) (by simp) (kmp (by kernel_rfl) (And.intro (r11 ([])) (And.intro (rfl : false = false) (And.intro (r19 (n) (g) (6) o0 ([])) (And.intro (show (bnot (r19.v n g 6)) = true by rw [h1]; try rfl) (And.intro (show (bnot (r19.v n g 6)) = true by rw [h1]; try rfl) (And.intro (show (bnot (r19.v n g 6)) = true by rw [h1]; try rfl) (And.intro (show (bnot (r19.v n g 6)) = true by rw [h1]; try rfl) (And.intro (rfl : true = true) (And.intro (show (AV.bool true) = ((AV.bool (r8.v n g nb gb m))) by first | (simp only [r8.v, h1, cond_true, cond_false]; done) | (try unfold r8.v; try simp only [h1, cond_true, cond_false]; try rfl; done) | rfl) trivial)))))))))) h

end Go.Proofs.Ytgmppoappaolkaa

open Go

namespace Go.Proofs.Ytgmppoappaolkaa

set_option linter.unusedVariables false

set_option linter.unusedSimpArgs false

set_option maxRecDepth 100000

variable {n nb : Nat} {g : Nat → SD} {gb : Nat → BD} {m : Int}

theorem all_min : ((List.range 7).all fun n => (List.range (2 ^ n)).all fun x => (List.range n).all fun k => !x.testBit k || (Nat.blt (x - 2 ^ k) (2 ^ n) && Nat.blt (pos n (x - 2 ^ k)) (pos n x) && (List.range n).all fun j => (x - 2 ^ k).testBit j == (x.testBit j && !(j == k)))) = true := by kernel_rfl

theorem all_cidx : ((List.range 7).all fun n => (List.range (2 ^ n)).all fun x => (List.range (idxL n x).length).all fun j => decide (0 ≤ (idxL n x).getD j 0) && decide ((idxL n x).getD j 0 < (n : Int)) && x.testBit ((idxL n x).getD j 0).toNat && (j == 0 || decide ((idxL n x).getD (j - 1) 0 < (idxL n x).getD j 0))) = true := by kernel_rfl

theorem all_cnt : ((List.range 7).all fun n => (List.range (2 ^ n)).all fun x => (List.range n).all fun k => (idxL n x).count (Int.ofNat k) == (bif x.testBit k then 1 else 0)) = true := by kernel_rfl

theorem less_one (hn : n ≤ 6) {x k : Nat} (hx : x < 2 ^ n) (hk : k < n) (hb : x.testBit k = true) : x - 2 ^ k < 2 ^ n ∧ pos n (x - 2 ^ k) < pos n x ∧ ∀ j, j < n → (x - 2 ^ k).testBit j = (x.testBit j && !(j == k)) := by
  have h1 := List.all_eq_true.1 all_min n (List.mem_range.2 (by omega))
  have h2 := List.all_eq_true.1 h1 x (List.mem_range.2 hx)
  have h3 := List.all_eq_true.1 h2 k (List.mem_range.2 hk)
  rw [hb] at h3
  simp only [Bool.not_true, Bool.false_or, Bool.and_eq_true, Nat.blt_eq] at h3
  exact ⟨h3.1.1, h3.1.2, fun j hj => eq_of_beq (List.all_eq_true.1 h3.2 j (List.mem_range.2 hj))⟩

theorem cidx (hn : n ≤ 6) {x j : Nat} (hx : x < 2 ^ n) (hj : j < (idxL n x).length) : 0 ≤ (idxL n x).getD j 0 ∧ (idxL n x).getD j 0 < (n : Int) ∧ x.testBit ((idxL n x).getD j 0).toNat = true ∧ (j = 0 ∨ (idxL n x).getD (j - 1) 0 < (idxL n x).getD j 0) := by
  have h1 := List.all_eq_true.1 all_cidx n (List.mem_range.2 (by omega))
  have h2 := List.all_eq_true.1 h1 x (List.mem_range.2 hx)
  have h3 := List.all_eq_true.1 h2 j (List.mem_range.2 hj)
  simp only [Bool.and_eq_true, Bool.or_eq_true, decide_eq_true_eq, beq_iff_eq] at h3
  exact ⟨h3.1.1.1, h3.1.1.2, h3.1.2, h3.2⟩

theorem ccnt (hn : n ≤ 6) {x k : Nat} (hx : x < 2 ^ n) (hk : k < n) : (idxL n x).count (k : Int) = (bif x.testBit k then 1 else 0) := by
  have h1 := List.all_eq_true.1 all_cnt n (List.mem_range.2 (by omega))
  have h2 := List.all_eq_true.1 h1 x (List.mem_range.2 hx)
  have h3 := List.all_eq_true.1 h2 k (List.mem_range.2 hk)
  exact eq_of_beq h3

theorem anyN_succ {p : Nat → Bool} : anyN (n + 1) p = (anyN n p || p n) := by
  unfold anyN
  rw [List.range_succ, List.any_append]
  simp

theorem L8j_no {C : List Int} {k : Int} (hC : C.length ≤ 100) : ∀ (q j : Nat) (c w : Int), j ≤ C.length → C.length - j < q → L8j.N C k false q c w (j : Int) = .e0 c w := by
  intro q
  induction q with
  | zero => intro j c w _ h; omega
  | succ q ih =>
    intro j c w hj hq
    simp only [L8j.N]
    by_cases h : j < C.length
    · rw [decide_eq_true (show (j : Int) < (C.length : Int) by omega), wrap_succ (n := C.length) (by omega) h]
      simp only [cond_true, cond_false, Bool.cond_self]
      exact ih (j + 1) c w h (by omega)
    · rw [decide_eq_false (by omega)]; rfl

theorem L8j_yes {C : List Int} {k : Int} (hC : C.length ≤ 100) : ∀ (q j c : Nat) (w : Int), j ≤ C.length → C.length - j < q → c ≤ 1000 + j → L8j.N C k true q (c : Int) w (j : Int) = .e0 ((c + (C.drop j).count k : Nat) : Int) (bif (C.drop j).count k == 0 then w else k) := by
  intro q
  induction q with
  | zero => intro j c w _ h; omega
  | succ q ih =>
    intro j c w hj hq hc
    simp only [L8j.N, Int.toNat_natCast]
    by_cases h : j < C.length
    · have eg : C.getD j 0 = C[j] := by rw [List.getD_eq_getElem?_getD, List.getElem?_eq_getElem h]; rfl
      rw [decide_eq_true (show (j : Int) < (C.length : Int) by omega), wrap_succ (n := C.length) (by omega) h, wrap_succ (n := 2000) (i := c) (by omega) (by omega), eg, List.drop_eq_getElem_cons h, List.count_cons]
      simp only [cond_true]
      cases e : (C[j] == k) with
      | true =>
        simp only [cond_true, if_true]
        rw [ih (j + 1) (c + 1) k h (by omega) (by omega)]
        have e1 : ((List.count k (List.drop (j + 1) C) + 1 : Nat) == 0) = false := rfl
        rw [e1, show c + 1 + List.count k (List.drop (j + 1) C) = c + (List.count k (List.drop (j + 1) C) + 1) by omega]
        cases (List.count k (List.drop (j + 1) C) == 0) <;> rfl
      | false =>
        simp only [cond_false]
        rw [ih (j + 1) c w h (by omega) (by omega)]
        simp
    · rw [decide_eq_false (by omega), List.drop_eq_nil_of_le (by omega)]; rfl

/-- `k` of the cover lifts block `i`. -/
noncomputable def onL (g : Nat → SD) (gb : Nat → BD) (m : Int) (x i k : Nat) : Bool := lf g gb m i k && x.testBit k

def Rel (p : Nat → Bool) (k : Nat) (c : Nat) (l : Int) : Prop :=
  c ≤ k ∧ (c = 0 ↔ ∀ k', k' < k → p k' = false) ∧ ∀ k0, k0 < k → p k0 = true → (∀ k', k' < k → p k' = true → k' = k0) → c = 1 ∧ l = (k0 : Int)

theorem Rel.no {p : Nat → Bool} {k c : Nat} {l : Int} (h : Rel p k c l) (hp : p k = false) : Rel p (k + 1) c l := by
  obtain ⟨h1, h2, h3⟩ := h
  have hall : ∀ k', k' < k + 1 → p k' = true → k' < k := fun k' h4 h5 => by
    by_cases e : k' = k
    · rw [e, hp] at h5; cases h5
    · omega
  refine ⟨by omega, h2.trans ⟨fun h4 k' h5 => ?_, fun h4 k' h5 => h4 k' (by omega)⟩, fun k0 h4 h5 h6 => h3 k0 (hall k0 h4 h5) h5 fun k' h7 h8 => h6 k' (by omega) h8⟩
  cases h6 : p k' with
  | false => rfl
  | true => rw [h4 k' (hall k' h5 h6)] at h6; cases h6

theorem Rel.yes {p : Nat → Bool} {k c : Nat} {l : Int} (h : Rel p k c l) (hp : p k = true) : Rel p (k + 1) (c + 1) (k : Int) := by
  obtain ⟨h1, h2, h3⟩ := h
  refine ⟨by omega, ⟨fun h4 => by omega, fun h4 => ?_⟩, fun k0 h4 h5 h6 => ?_⟩
  · have := h4 k (by omega); rw [hp] at this; cases this
  · have e : k = k0 := h6 k (by omega) hp
    subst e
    have : c = 0 := h2.2 fun k' h7 => by
      cases h8 : p k' with
      | false => rfl
      | true => have := h6 k' (by omega) h8; omega
    exact ⟨by omega, rfl⟩

theorem L8k_run (hn : n ≤ 6) {x i : Nat} (hx : x < 2 ^ n) (hr : ∀ k, k < n → r23.v1 (g k) (gb i).a (gb i).b (gb i).c (gb i).d (gb i).e (gb i).f m = 0 ∧ r23.v0 (g k) (gb i).a (gb i).b (gb i).c (gb i).d (gb i).e (gb i).f m = lf g gb m i k) :
    ∀ (q k c : Nat) (l : Int), k ≤ n → n - k < q → Rel (onL g gb m x i) k c l → ∃ (c' : Nat) (l' : Int), L8k.N n g gb m (idxL n x) (i : Int) q (anyN k (lf g gb m i)) (c : Int) l (k : Int) = .e1 (anyN n (lf g gb m i)) (c' : Int) l' ∧ Rel (onL g gb m x i) n c' l' := by
  intro q
  induction q with
  | zero => intro k c l _ h; omega
  | succ q ih =>
    intro k c l hk hq hrel
    simp only [L8k.N, Int.toNat_natCast]
    by_cases h : k < n
    · obtain ⟨r1, r2⟩ := hr k h
      have hlen : (idxL n x).length ≤ 100 := Nat.le_trans idx_len (by omega)
      rw [decide_eq_true (show (k : Int) < (n : Int) by omega), wrap_succ (n := n) (by omega) h, r1, r2]
      simp only [beq_self_eq_true, cond_true]
      have hb : ∀ b', b' = (anyN k (lf g gb m i) || lf g gb m i k) → b' = anyN (k + 1) (lf g gb m i) := fun b' e => e.trans anyN_succ.symm
      have one : ∃ (c' : Nat) (l' : Int), L8j.run (idxL n x) (k : Int) (lf g gb m i k) (c : Int) l 0 = .e0 (c' : Int) l' ∧ Rel (onL g gb m x i) (k + 1) c' l' := by
        cases hl : lf g gb m i k with
        | false =>
          refine ⟨c, l, ?_, hrel.no (by unfold onL; rw [hl]; rfl)⟩
          exact L8j_no (k := (k : Int)) hlen _ 0 _ _ (Nat.zero_le _) (by omega)
        | true =>
          have e := L8j_yes (k := (k : Int)) (C := idxL n x) hlen (((((idxL n x).length : Int)) - 0).toNat + 1) 0 c l (Nat.zero_le _) (by omega) (by have := hrel.1; omega)
          rw [List.drop_zero, ccnt hn hx h] at e
          cases ht : x.testBit k with
          | true =>
            rw [ht] at e
            exact ⟨c + 1, (k : Int), e, hrel.yes (by unfold onL; rw [hl, ht]; rfl)⟩
          | false =>
            rw [ht] at e
            exact ⟨c, l, e, hrel.no (by unfold onL; rw [hl, ht]; rfl)⟩
      obtain ⟨c1, l1, e1, e2⟩ := one
      rw [e1]
      have := ih (k + 1) c1 l1 h (by omega) e2
      rw [anyN_succ] at this
      cases hs : anyN k (lf g gb m i) with
      | true => rw [hs] at this; exact this
      | false => rw [hs] at this; exact this
    · obtain rfl : k = n := by omega
      rw [decide_eq_false (by omega)]
      exact ⟨c, l, rfl, hrel⟩

noncomputable def missN (n nb : Nat) (g : Nat → SD) (gb : Nat → BD) (m : Int) (i : Nat) : List ByteArray := ((List.range' i (nb - i)).filter fun a => !anyN n (lf g gb m a)).map fun a => (gb a).nm

theorem missN_succ {i : Nat} (h : i < nb) : missN n nb g gb m i = bif anyN n (lf g gb m i) then missN n nb g gb m (i + 1) else (gb i).nm :: missN n nb g gb m (i + 1) := by
  unfold missN
  rw [show nb - i = (nb - (i + 1)) + 1 by omega, List.range'_succ, List.filter_cons]
  cases anyN n (lf g gb m i) <;> rfl

def Alone (n : Nat) (g : Nat → SD) (gb : Nat → BD) (m : Int) (x i : Nat) (l : List Bool) : Prop :=
  ∀ a, a < i → ∀ k0, k0 < n → onL g gb m x a k0 = true → (∀ k', k' < n → onL g gb m x a k' = true → k' = k0) → l.getD k0 false = true

theorem set_keep {l : List Bool} {j k : Nat} (h : l.getD k false = true) : (l.set j true).getD k false = true := by
  rw [List.getD_eq_getElem?_getD] at h ⊢
  rw [List.getElem?_set]
  split
  · split
    · rfl
    · subst_vars
      rw [List.getElem?_eq_none (by omega)] at h
      exact h
  · exact h

theorem set_get {l : List Bool} {k : Nat} (h : k < l.length) : (l.set k true).getD k false = true := by
  rw [List.getD_eq_getElem?_getD, List.getElem?_set, if_pos rfl, if_pos h]; rfl

theorem L8i_run (hn : n ≤ 6) (hb : nb ≤ 8) {x : Nat} (hx : x < 2 ^ n)
    (hr : ∀ i, i < nb → ∀ k, k < n → r23.v1 (g k) (gb i).a (gb i).b (gb i).c (gb i).d (gb i).e (gb i).f m = 0 ∧ r23.v0 (g k) (gb i).a (gb i).b (gb i).c (gb i).d (gb i).e (gb i).f m = lf g gb m i k)
    (hc : ∀ i, i < nb → anyN n (lf g gb m i) = true → ∃ k, k < n ∧ onL g gb m x i k = true) {M : List ByteArray} (hM : M.length ≤ 100) :
    ∀ (q i : Nat) (pre : List ByteArray) (l : List Bool), i ≤ nb → nb - i < q → l.length = n → Alone n g gb m x i l → M = pre ++ missN n nb g gb m i →
    ∃ l', L8i.N n g nb gb m (idxL n x) M q (pre.length : Int) (i : Int) l = .e1 (M.length : Int) l' ∧ Alone n g gb m x nb l' := by
  intro q
  induction q with
  | zero => intro i pre l _ h; omega
  | succ q ih =>
    intro i pre l hi hq hl ha hm
    simp only [L8i.N, Int.toNat_natCast]
    by_cases h : i < nb
    · obtain ⟨c, w, e, h1, h2, h3⟩ := L8k_run (g := g) (gb := gb) (m := m) hn hx (hr i h) (((n : Int) - 0).toNat + 1) 0 0 0 (Nat.zero_le _) (by omega) ⟨Nat.le_refl _, ⟨fun _ k' h => by omega, fun _ => rfl⟩, fun k0 h => by omega⟩
      have e' : L8k.run n g gb m (idxL n x) (i : Int) false 0 0 0 = .e1 (anyN n (lf g gb m i)) (c : Int) w := e
      rw [decide_eq_true (show (i : Int) < (nb : Int) by omega), wrap_succ (n := nb) (by omega) h, e']
      simp only [cond_true, Nat.zero_add]
      have al : ∀ l1 : List Bool, (l1 = bif ((c : Int) == 1) then l.set w.toNat true else l) → Alone n g gb m x (i + 1) l1 ∧ l1.length = n := fun l1 e1 => by
        refine ⟨fun a ha' k0 hk0 hp hu => ?_, by rw [e1]; cases ((c : Int) == 1) with | true => exact (List.length_set ..).trans hl | false => exact hl⟩
        by_cases hai : a < i
        · rw [e1]
          cases ((c : Int) == 1) with
          | true => exact set_keep (ha a hai k0 hk0 hp hu)
          | false => exact ha a hai k0 hk0 hp hu
        · obtain rfl : a = i := by omega
          obtain ⟨q1, q2⟩ := h3 k0 hk0 hp hu
          rw [e1, q1, q2]
          exact set_get (by omega)
      rw [missN_succ h] at hm
      cases hs : anyN n (lf g gb m i) with
      | true =>
        rw [hs] at hm
        simp only [cond_true] at hm ⊢
        obtain ⟨k, hk, hon⟩ := hc i h hs
        have c0 : ((c : Int) == 0) = false := beq_eq_false_iff_ne.2 fun hz => by
          have := h2.1 (by omega) k hk
          rw [hon] at this; cases this
        rw [c0]
        simp only [cond_false]
        cases h1c : ((c : Int) == 1) with
        | true =>
          have := al (l.set w.toNat true) (by rw [h1c]; rfl)
          exact ih (i + 1) pre _ h (by omega) this.2 this.1 hm
        | false =>
          have := al l (by rw [h1c]; rfl)
          exact ih (i + 1) pre _ h (by omega) this.2 this.1 hm
      | false =>
        rw [hs] at hm
        simp only [cond_false] at hm ⊢
        have hlt : pre.length < M.length := by rw [hm, List.length_append, List.length_cons]; omega
        have hget : M.getD pre.length ByteArray.empty = (gb i).nm := by
          rw [List.getD_eq_getElem?_getD, hm, List.getElem?_append_right (Nat.le_refl _), Nat.sub_self]; rfl
        have hm' : M = (pre ++ [(gb i).nm]) ++ missN n nb g gb m (i + 1) := by rw [hm, List.append_assoc]; rfl
        have hlen : ((pre ++ [(gb i).nm]).length : Int) = ((pre.length + 1 : Nat) : Int) := by rw [List.length_append]; rfl
        rw [decide_eq_false (show ¬ (pre.length : Int) ≥ (M.length : Int) by omega), hget, wrap_succ (n := M.length) (by omega) hlt]
        simp only [cond_false, beq_self_eq_true, cond_true]
        cases h1c : ((c : Int) == 1) with
        | true =>
          have := al (l.set w.toNat true) (by rw [h1c]; rfl)
          have r := ih (i + 1) (pre ++ [(gb i).nm]) _ h (by omega) this.2 this.1 hm'
          rw [hlen] at r
          exact r
        | false =>
          have := al l (by rw [h1c]; rfl)
          have r := ih (i + 1) (pre ++ [(gb i).nm]) _ h (by omega) this.2 this.1 hm'
          rw [hlen] at r
          exact r
    · obtain rfl : i = nb := by omega
      rw [decide_eq_false (by omega)]
      have : M.length = pre.length := by rw [hm]; unfold missN; rw [Nat.sub_self]; simp
      rw [this]
      exact ⟨l, rfl, ha⟩

theorem L8d_run (hn : n ≤ 6) {x : Nat} (hx : x < 2 ^ n) {l : List Bool} (ha : ∀ k, k < n → x.testBit k = true → l.getD k false = true) : ∀ (q j : Nat), j ≤ (idxL n x).length → (idxL n x).length - j < q → L8d.N n (idxL n x) l q (j : Int) = .e1 := by
  have hlen : (idxL n x).length ≤ 100 := Nat.le_trans idx_len (by omega)
  intro q
  induction q with
  | zero => intro j _ h; omega
  | succ q ih =>
    intro j hj hq
    simp only [L8d.N, Int.toNat_natCast, Nat.zero_add]
    by_cases h : j < (idxL n x).length
    · obtain ⟨c1, c2, c3, c4⟩ := cidx hn hx h
      rw [decide_eq_true (show (j : Int) < ((idxL n x).length : Int) by omega), wrap_succ (n := (idxL n x).length) (by omega) h, decide_eq_false (show ¬ (idxL n x).getD j 0 < 0 by omega), decide_eq_false (show ¬ (idxL n x).getD j 0 ≥ (n : Int) by omega), ha _ (by omega) c3]
      simp only [cond_true, cond_false]
      rcases c4 with c4 | c4
      · rw [decide_eq_false (show ¬ (j : Int) > 0 by omega)]
        exact ih (j + 1) h (by omega)
      · by_cases j0 : 0 < j
        · rw [decide_eq_true (show (j : Int) > 0 by omega), wrap_pred (n := (idxL n x).length) (by omega) h j0, decide_eq_false (by omega)]
          exact ih (j + 1) h (by omega)
        · rw [decide_eq_false (show ¬ (j : Int) > 0 by omega)]
          exact ih (j + 1) h (by omega)
    · rw [decide_eq_false (by omega)]; rfl

theorem L28_run (hn : n ≤ 6) (hb : nb ≤ 256) : ∀ (q a v : Nat) (al : List ByteArray), a ≤ nb → nb - a < q → ∃ v', L28a.N n g nb gb m q v al (a : Int) = .e0 v' (al ++ missN n nb g gb m a) := by
  intro q
  induction q with
  | zero => intro a v al _ h; omega
  | succ q ih =>
    intro a v al ha hq
    simp only [L28a.N, Int.toNat_natCast]
    by_cases h : a < nb
    · have e : ((r48.v n g nb gb m).getD a 0 == 0) = !anyN n (lf g gb m a) := by
        rw [r48_get hn hb h, ← mk_zero (lf g gb m a) n]
        by_cases c : mk (lf g gb m a) n = 0
        · rw [c]; rfl
        · rw [show (mk (lf g gb m a) n == 0) = false from beq_eq_false_iff_ne.2 c]
          exact beq_eq_false_iff_ne.2 (by omega)
      rw [decide_eq_true (show (a : Int) < nb by omega), wrap_succ (n := nb) (by omega) h, e, missN_succ h]
      simp only [cond_true]
      cases anyN n (lf g gb m a) with
      | false =>
        obtain ⟨v', e2⟩ := ih (a + 1) (v + 1) (al ++ [(gb a).nm]) h (by omega)
        exact ⟨v', by rw [List.append_assoc] at e2; exact e2⟩
      | true => exact ih (a + 1) v al h (by omega)
    · rw [decide_eq_false (by omega)]
      unfold missN
      rw [show nb - a = 0 by omega]
      exact ⟨v, by simp⟩

end Go.Proofs.Ytgmppoappaolkaa

open Go

namespace Go.Proofs.Ytgmppoappaolkaa

set_option linter.unusedVariables false

set_option linter.unusedSimpArgs false

set_option maxRecDepth 100000

variable {n nb : Nat} {g : Nat → SD} {gb : Nat → BD} {m : Int}

theorem r8_true (hn : n ≤ 9223372036854775807) (hnb : nb ≤ 9223372036854775807) : r8.v n g nb gb m = true := by
  unfold r8.v
  cases h19 : r19.v n g 6 with
  | false => rfl
  | true =>
  cases h27 : r27.v nb gb 8 with
  | false => rfl
  | true =>
    have hn6 := bd19n h19
    have hb8 := bd27n h27
    simp only [cond_true, Int.toNat_natCast]
    cases hz : (r47.v n g nb gb m == 0) with
    | false =>
      have e1 : r28.v1 n g nb gb m = r47.v n g nb gb m := by unfold r28.v1; rw [hz]; rfl
      have e2 : r29.v1 n g nb gb m = r47.v n g nb gb m := by unfold r29.v1; rw [hz]; rfl
      have e3 : r28.v0 n g nb gb m = [] := by unfold r28.v0; rw [hz]; rfl
      have e4 : r29.v0 n g nb gb m = [] := by unfold r29.v0; rw [hz]; rfl
      rw [e1, e2, e3, e4, hz]
      simp
    | true =>
      obtain ⟨k1, k2, k3, k4, k5⟩ := ready_ok hz hn
      have z43 : r43.v n g = 0 := ok20z (by rw [k1]; rfl)
      have hst : ∀ i, i < n → StOk (g i) := ok43s hn z43
      obtain ⟨c1, c2, x, hx, hcov, hidx, hmin⟩ := cover_eq (g := g) (gb := gb) (m := m) (show n ≤ 6 by omega) (show nb ≤ 256 by omega) hst k3 k4 hz
      obtain ⟨v', e28⟩ := L28_run (g := g) (gb := gb) (m := m) (n := n) (nb := nb) (by omega) (by omega) (((nb : Int) - 0).toNat + 1) 0 0 [] (Nat.zero_le _) (by omega)
      have e28' : L28a.run n g nb gb m 0 [] 0 = .e0 v' (missN n nb g gb m 0) := e28
      have hM : r28.v0 n g nb gb m = missN n nb g gb m 0 := by unfold r28.v0; rw [hz, e28']; rfl
      have hM1 : r28.v1 n g nb gb m = 0 := by unfold r28.v1; rw [hz, e28']; rfl
      have hlen : (missN n nb g gb m 0).length ≤ 100 := by rw [← hM]; exact bd28 hM1 h27
      have hr : ∀ i, i < nb → ∀ k, k < n → r23.v1 (g k) (gb i).a (gb i).b (gb i).c (gb i).d (gb i).e (gb i).f m = 0 ∧ r23.v0 (g k) (gb i).a (gb i).b (gb i).c (gb i).d (gb i).e (gb i).f m = lf g gb m i k := fun i hi k hk => r23_of (one_ok hn z43 hk) (k3 i hi) k4
      have hcv : ∀ t, t < 2 ^ n → (cov n nb g gb m t = true ↔ ∀ i, i < nb → anyN n (lf g gb m i) = true → ∃ k, k < n ∧ onL g gb m t i k = true) := fun t _ => by
        unfold cov
        constructor
        · intro h i hi ha
          have h' : (anyN nb fun i => anyN n (lf g gb m i) && !anyN n fun k => lf g gb m i k && t.testBit k) = false := by
            rw [Bool.not_eq_true'] at h; exact h
          have := anyN_false.1 h' i hi
          rw [ha] at this
          simp only [Bool.true_and, Bool.not_eq_false'] at this
          exact anyN_true.1 this
        · intro h
          rw [Bool.not_eq_true']
          refine anyN_false.2 fun i hi => ?_
          cases ha : anyN n (lf g gb m i) with
          | false => rfl
          | true =>
            have := anyN_true.2 (h i hi ha)
            show (true && !anyN n (onL g gb m t i)) = false
            rw [this]; rfl
      obtain ⟨l', e8, hal⟩ := L8i_run (g := g) (gb := gb) (m := m) (show n ≤ 6 by omega) (show nb ≤ 8 by omega) hx hr ((hcv x hx).1 hcov) (M := missN n nb g gb m 0) hlen (((nb : Int) - 0).toNat + 1) 0 [] (List.replicate n false) (Nat.zero_le _) (by omega) List.length_replicate (fun a ha => by omega) rfl
      have e8' : L8i.run n g nb gb m (idxL n x) (missN n nb g gb m 0) 0 0 (List.replicate n false) = .e1 ((missN n nb g gb m 0).length : Int) l' := e8
      have hneed : ∀ k, k < n → x.testBit k = true → l'.getD k false = true := fun k hk hb => by
        obtain ⟨y1, y2, y3⟩ := less_one (show n ≤ 6 by omega) hx hk hb
        -- without k it covers no more
        have hno : ¬ cov n nb g gb m (x - 2 ^ k) = true := fun h => by have := hmin _ y1 h; omega
        have : ∃ i, i < nb ∧ anyN n (lf g gb m i) = true ∧ ∀ k', k' < n → onL g gb m (x - 2 ^ k) i k' = false := by
          apply Classical.byContradiction
          intro hne
          refine hno ((hcv _ y1).2 fun i hi ha => ?_)
          apply Classical.byContradiction
          intro hne2
          refine hne ⟨i, hi, ha, fun k' hk' => ?_⟩
          cases h : onL g gb m (x - 2 ^ k) i k' with
          | false => rfl
          | true => exact (hne2 ⟨k', hk', h⟩).elim
        obtain ⟨i, hi, ha, hnone⟩ := this
        have huniq : ∀ k', k' < n → onL g gb m x i k' = true → k' = k := fun k' hk' h => by
          have h2 := hnone k' hk'
          unfold onL at h h2
          rw [y3 k' hk'] at h2
          rw [Bool.and_eq_true] at h
          rw [h.1, h.2] at h2
          simpa using h2
        obtain ⟨k', hk', h'⟩ := (hcv x hx).1 hcov i hi ha
        obtain rfl := huniq k' hk' h'
        exact hal i hi k' hk h' huniq
      have e9 := L8d_run (show n ≤ 6 by omega) hx hneed (((idxL n x).length : Int) - 0).toNat.succ 0 (Nat.zero_le _) (by omega)
      have e9' : L8d.run n (idxL n x) l' 0 = .e1 := e9
      rw [c2, hM1, hM, hidx, e8']
      simp only [beq_self_eq_true, cond_true]
      rw [e9']

end Go.Proofs.Ytgmppoappaolkaa

open Go

namespace Go.Proofs.Ytgmppoappaolkaa

open Go.ChangeShapes Go.WideShapes Go.ChangeAt Go.RowKit

set_option maxRecDepth 100000 in
theorem law8 (xs : List AV) (h : FitsA Try.prog 8 [39, 54, 3] xs) : Ret Try.prog 8 xs [] (.bool true) [] := by
  obtain ⟨x0, x1, x2, rfl, h0, h1, h2⟩ := fitsA3 h
  obtain ⟨n, g, hn, i0⟩ := arg_stands h0
  obtain ⟨nb, gb, hnb, i1⟩ := arg_blocks h1
  obtain ⟨m2, rfl⟩ := arg_int h2
  have := r8 n g hn nb gb hnb m2 []
  rw [r8_true hn hnb] at this
  exact this.imp (.cons i0 (.cons i1 (.cons (.refl _) .nil)))

set_option maxRecDepth 100000 in
theorem craneSuffices_lifted (os : Os) (started : os.Started) (H : Type) (enc : TypeId × Value → H) :
    ReturnsInHanded {} Try.checked os 8 .any (Rows.craneSufficesSpec.pre6 enc Try.prog Try.f8 Rows.craneSufficesRow.domain false) (Rows.craneSufficesSpec.post enc Try.prog Try.f8 false true false false) :=
  lifted (C := Try.checked) 8 own started (by kernel_rfl) Try.func8
    (ChangeSpec.witness6 (enc := enc) (C := Try.checked) false ⟨#[], #[.slice none 0 0, .slice none 0 0, .int .i64 0], []⟩ 8 (by kernel_rfl) (by kernel_rfl) (by kernel_rfl) (by kernel_rfl))
    rfl (fun ds hd => by
      match ds, hd with
      | [_, _, _], _ => rfl) (rt := 4) (by kernel_rfl) (by kernel_rfl) laidOut (by kernel_rfl) law8

theorem craneSuffices_holds : Rows.CraneSufficesSaid :=
  OpenClaim.holds_of_wide 8 Try.f8 rfl rfl rfl rfl rfl rfl rfl ⟨rfl, rfl, rfl, rfl, rfl⟩ rfl rfl rfl rfl rfl (by kernel_rfl) Try.func8 (by kernel_rfl)
    (of_decide_eq_true (by kernel_rfl)) (by unfold Func.isWrapper; first | (rw [if_pos (by decide +kernel)]; kernel_rfl) | (rw [if_neg (by decide +kernel)]; exact ⟨rfl, rfl⟩))
    (fun os started H enc _ => craneSuffices_lifted os started H enc)

end Go.Proofs.Ytgmppoappaolkaa
