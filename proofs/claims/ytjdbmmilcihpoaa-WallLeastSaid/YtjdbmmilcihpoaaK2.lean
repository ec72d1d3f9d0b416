/- Contracts of the functions and plain laws, part 2. Conditions: none. -/
import Derived.Test.YtjdbmmilcihpoaaK1

/- the wall seat's contracts: the references of Layout and Reach. -/
open Go
namespace Go.Proofs.Ytjdbmmilcihpoaa
set_option linter.unusedSimpArgs false
set_option linter.unusedVariables false
set_option maxHeartbeats 0
set_option maxRecDepth 100000
inductive L38ab.O where
  | e0 (a0 : List Bool)
noncomputable def L38ab.T (L : Int) (j : Int) (l : Int) (n : Nat) (f : Nat → Int) (m : Nat) (g : Nat → Int) (a12 : Int) (ar0 : List Bool) (b13 : Int) (br0 : List Bool) : List AV := mkT 65 [(0, AV.int IntKind.i64 L), (1, AV.int IntKind.i64 j), (2, AV.int IntKind.i64 l), (3, AV.sl 1 n fun (i : Nat) => AV.int IntKind.i64 (f i)), (4, AV.sl 1 m fun (i : Nat) => AV.int IntKind.i64 (g i)), (11, AV.ms 0 (IntKind.i64.wrap (L + 1)).toNat 1 0 (IntKind.i64.wrap (L + 1)).toNat), (12, AV.int IntKind.i64 a12), (13, AV.int IntKind.i64 b13)]
noncomputable def L38ab.H (L : Int) (j : Int) (l : Int) (n : Nat) (f : Nat → Int) (m : Nat) (g : Nat → Int) (a12 : Int) (ar0 : List Bool) (b13 : Int) (br0 : List Bool) : AHeap := [AObj.row 1 (IntKind.i64.wrap (L + 1)).toNat (Col.bools br0)]
def L38ab.inv (L : Int) (j : Int) (l : Int) (n : Nat) (f : Nat → Int) (m : Nat) (g : Nat → Int) (a12 : Int) (ar0 : List Bool) (b13 : Int) (br0 : List Bool) : Prop := 0 ≤ b13 ∧ (b13 ≤ (↑n : Int) ∨ b13 ≤ 0) ∧ br0.length = ar0.length
noncomputable def L38ab.mu (L : Int) (j : Int) (l : Int) (n : Nat) (f : Nat → Int) (m : Nat) (g : Nat → Int) (a12 : Int) (ar0 : List Bool) (b13 : Int) (br0 : List Bool) : Nat := ((↑n : Int) - b13).toNat
noncomputable def L38ab.E : L38ab.O → Exit
  | .e0 a0 => Exit.exit 2
noncomputable def L38ab.X (L : Int) (j : Int) (l : Int) (n : Nat) (f : Nat → Int) (m : Nat) (g : Nat → Int) (a12 : Int) (ar0 : List Bool) : L38ab.O → List AV
  | .e0 a0 => mkT 65 [(0, (AV.int IntKind.i64 L)), (1, (AV.int IntKind.i64 j)), (2, (AV.int IntKind.i64 l)), (3, (AV.sl 1 n fun (i : Nat) => AV.int IntKind.i64 (f i))), (4, (AV.sl 1 m fun (i : Nat) => AV.int IntKind.i64 (g i))), (11, (AV.ms 0 (IntKind.i64.wrap (L + 1)).toNat 1 0 (IntKind.i64.wrap (L + 1)).toNat)), (12, (AV.int IntKind.i64 a12))]
noncomputable def L38ab.XH (L : Int) (j : Int) (l : Int) (n : Nat) (f : Nat → Int) (m : Nat) (g : Nat → Int) (a12 : Int) (ar0 : List Bool) : L38ab.O → AHeap
  | .e0 a0 => ((AObj.row 1 ((IntKind.i64.wrap (L + 1)).toNat) (Col.bools a0)) :: ([]))
noncomputable def L38ab.N (L : Int) (j : Int) (l : Int) (n : Nat) (f : Nat → Int) (m : Nat) (g : Nat → Int) (a12 : Int) : Nat → Int → (List Bool) → L38ab.O
  | 0, _, br0 => .e0 br0
  | k_ + 1, b13, br0 => (bif decide (b13 < (↑n : Int)) then (bif IntKind.i64.wrap (a12 + f b13.toNat) == L then (L38ab.N L j l n f m g a12 k_ (IntKind.i64.wrap (b13 + 1)) (br0.set (0 + a12.toNat) true)) else (bif decide (IntKind.i64.wrap (IntKind.i64.wrap (a12 + f b13.toNat) + j) < L) then (bif r36.v (IntKind.i64.wrap (a12 + f b13.toNat)) j l m g then (bif br0.getD (0 + (IntKind.i64.wrap (IntKind.i64.wrap (a12 + f b13.toNat) + j)).toNat) false then (L38ab.N L j l n f m g a12 k_ (IntKind.i64.wrap (b13 + 1)) (br0.set (0 + a12.toNat) true)) else (L38ab.N L j l n f m g a12 k_ (IntKind.i64.wrap (b13 + 1)) (br0))) else (L38ab.N L j l n f m g a12 k_ (IntKind.i64.wrap (b13 + 1)) (br0))) else (L38ab.N L j l n f m g a12 k_ (IntKind.i64.wrap (b13 + 1)) (br0)))) else (.e0 (br0)))
noncomputable def L38ab.run (L : Int) (j : Int) (l : Int) (n : Nat) (f : Nat → Int) (m : Nat) (g : Nat → Int) (a12 : Int) (b13 : Int) (br0 : List Bool) : L38ab.O := L38ab.N L j l n f m g a12 ((((↑n : Int) - b13).toNat) + 1) b13 br0
def L38ab.Next (L : Int) (j : Int) (l : Int) (n : Nat) (f : Nat → Int) (m : Nat) (g : Nat → Int) (a12 : Int) (ar0 : List Bool) (k_ : Nat) (z_ : Int × (List Bool)) (T_ : List AV) (h_ : AHeap) : Prop := LNextP (fun (z_ : Int × (List Bool)) => L38ab.T L j l n f m g a12 ar0 z_.1 z_.2) (fun (z_ : Int × (List Bool)) => L38ab.H L j l n f m g a12 ar0 z_.1 z_.2) (fun (z_ : Int × (List Bool)) => L38ab.inv L j l n f m g a12 ar0 z_.1 z_.2) (fun (z_ : Int × (List Bool)) => L38ab.mu L j l n f m g a12 ar0 z_.1 z_.2) (fun (k_ : Nat) (z_ : Int × (List Bool)) => L38ab.N L j l n f m g a12 k_ z_.1 z_.2) k_ z_ T_ h_
def L38ab.End (L : Int) (j : Int) (l : Int) (n : Nat) (f : Nat → Int) (m : Nat) (g : Nat → Int) (a12 : Int) (ar0 : List Bool) (k_ : Nat) (z_ : Int × (List Bool)) (e_ : Exit) (T_ : List AV) (h_ : AHeap) : Prop := LEndP (fun (z_ : Int × (List Bool)) => L38ab.H L j l n f m g a12 ar0 z_.1 z_.2) (fun (k_ : Nat) (z_ : Int × (List Bool)) => L38ab.N L j l n f m g a12 k_ z_.1 z_.2) L38ab.E (L38ab.X L j l n f m g a12 ar0) (L38ab.XH L j l n f m g a12 ar0) k_ z_ e_ T_ h_
theorem L38ab.nx (L : Int) (j : Int) (l : Int) (n : Nat) (f : Nat → Int) (m : Nat) (g : Nat → Int) (a12 : Int) (ar0 : List Bool) {k_ : Nat} {z_ : Int × (List Bool)} {h_ : AHeap} (s_ : Int × (List Bool)) (h1 : L38ab.inv L j l n f m g a12 ar0 s_.1 s_.2) (h2 : L38ab.mu L j l n f m g a12 ar0 s_.1 s_.2 < L38ab.mu L j l n f m g a12 ar0 z_.1 z_.2) (h3 : L38ab.N L j l n f m g a12 k_ s_.1 s_.2 = L38ab.N L j l n f m g a12 (k_ + 1) z_.1 z_.2) (h4 : PopOk (L38ab.H L j l n f m g a12 ar0 z_.1 z_.2) h_ (L38ab.T L j l n f m g a12 ar0 s_.1 s_.2) (L38ab.H L j l n f m g a12 ar0 s_.1 s_.2)) : LNextP (fun (z_ : Int × (List Bool)) => L38ab.T L j l n f m g a12 ar0 z_.1 z_.2) (fun (z_ : Int × (List Bool)) => L38ab.H L j l n f m g a12 ar0 z_.1 z_.2) (fun (z_ : Int × (List Bool)) => L38ab.inv L j l n f m g a12 ar0 z_.1 z_.2) (fun (z_ : Int × (List Bool)) => L38ab.mu L j l n f m g a12 ar0 z_.1 z_.2) (fun (k_ : Nat) (z_ : Int × (List Bool)) => L38ab.N L j l n f m g a12 k_ z_.1 z_.2) k_ z_ (L38ab.T L j l n f m g a12 ar0 s_.1 s_.2) h_ := LNextP.mk (Tm := (fun (z_ : Int × (List Bool)) => L38ab.T L j l n f m g a12 ar0 z_.1 z_.2)) (Hp := (fun (z_ : Int × (List Bool)) => L38ab.H L j l n f m g a12 ar0 z_.1 z_.2)) (inv := (fun (z_ : Int × (List Bool)) => L38ab.inv L j l n f m g a12 ar0 z_.1 z_.2)) (mu := (fun (z_ : Int × (List Bool)) => L38ab.mu L j l n f m g a12 ar0 z_.1 z_.2)) (l := (fun (k_ : Nat) (z_ : Int × (List Bool)) => L38ab.N L j l n f m g a12 k_ z_.1 z_.2)) s_ h1 h2 h3 h4
theorem L38ab.en (L : Int) (j : Int) (l : Int) (n : Nat) (f : Nat → Int) (m : Nat) (g : Nat → Int) (a12 : Int) (ar0 : List Bool) {k_ : Nat} {z_ : Int × (List Bool)} {h_ : AHeap} (o_ : L38ab.O) (h3 : L38ab.N L j l n f m g a12 (k_ + 1) z_.1 z_.2 = o_) (h4 : PopOk (L38ab.H L j l n f m g a12 ar0 z_.1 z_.2) h_ (L38ab.X L j l n f m g a12 ar0 o_) (L38ab.XH L j l n f m g a12 ar0 o_)) : LEndP (fun (z_ : Int × (List Bool)) => L38ab.H L j l n f m g a12 ar0 z_.1 z_.2) (fun (k_ : Nat) (z_ : Int × (List Bool)) => L38ab.N L j l n f m g a12 k_ z_.1 z_.2) L38ab.E (L38ab.X L j l n f m g a12 ar0) (L38ab.XH L j l n f m g a12 ar0) k_ z_ (L38ab.E o_) (L38ab.X L j l n f m g a12 ar0 o_) h_ := LEndP.mk (Hp := (fun (z_ : Int × (List Bool)) => L38ab.H L j l n f m g a12 ar0 z_.1 z_.2)) (l := (fun (k_ : Nat) (z_ : Int × (List Bool)) => L38ab.N L j l n f m g a12 k_ z_.1 z_.2)) (oE := L38ab.E) (oT := L38ab.X L j l n f m g a12 ar0) (oH := L38ab.XH L j l n f m g a12 ar0) o_ h3 h4
noncomputable abbrev L38ab.h0 (L : Int) (j : Int) (l : Int) (n : Nat) (f : Nat → Int) (m : Nat) (g : Nat → Int) (a12 : Int) (ar0 : List Bool) (b13 : Int) (br0 : List Bool) : AHeap := ([AObj.row 1 (IntKind.i64.wrap (L + 1)).toNat (Col.bools br0)])
theorem L38ab.spec (L : Int) (j : Int) (l : Int) (n : Nat) (f : Nat → Int) (hn : n ≤ 9223372036854775807) (m : Nat) (g : Nat → Int) (hm : m ≤ 9223372036854775807) (hk : LOk L j l n f m g) (a12 : Int) (ar0 : List Bool) (i38a_0 : a12 ≤ IntKind.i64.wrap (L - 1)) (i38a_1 : 0 - 1 ≤ a12 ∨ a12 = IntKind.i64.wrap (L - 1)) (i38a_2 : ar0.length = (List.replicate (IntKind.i64.wrap (L + 1)).toNat false).length) (k1_1 : decide (a12 ≥ 0) = true) (p1_1 : a12 ≥ 0) (k_ : Nat) (z_ : Int × (List Bool)) (hi_ : L38ab.inv L j l n f m g a12 ar0 z_.1 z_.2) (hm_ : L38ab.mu L j l n f m g a12 ar0 z_.1 z_.2 < k_) : LoopTo Try.prog (loopN Try.f38 1) (L38ab.T L j l n f m g a12 ar0 z_.1 z_.2) (L38ab.H L j l n f m g a12 ar0 z_.1 z_.2) (L38ab.E (L38ab.N L j l n f m g a12 k_ z_.1 z_.2)) (L38ab.X L j l n f m g a12 ar0 (L38ab.N L j l n f m g a12 k_ z_.1 z_.2)) (L38ab.XH L j l n f m g a12 ar0 (L38ab.N L j l n f m g a12 k_ z_.1 z_.2)) := by
  refine LoopTo.fuelP mix (fun (z_ : Int × (List Bool)) => L38ab.T L j l n f m g a12 ar0 z_.1 z_.2) (fun (z_ : Int × (List Bool)) => L38ab.H L j l n f m g a12 ar0 z_.1 z_.2) (fun (z_ : Int × (List Bool)) => L38ab.inv L j l n f m g a12 ar0 z_.1 z_.2) (fun (z_ : Int × (List Bool)) => L38ab.mu L j l n f m g a12 ar0 z_.1 z_.2) (fun (k_ : Nat) (z_ : Int × (List Bool)) => L38ab.N L j l n f m g a12 k_ z_.1 z_.2) L38ab.E (L38ab.X L j l n f m g a12 ar0) (L38ab.XH L j l n f m g a12 ar0) (others 65 [0, 1, 2, 3, 4, 11, 12, 13]) (others 65 [10]) (others 65 [0, 1, 2, 3, 4, 11, 12]) ?_ k_ z_ hi_ hm_
  clear hm_ hi_ z_ k_
  intro k_ z_ hinv hmu
  obtain ⟨b13, br0⟩ := z_
  have hinv : 0 ≤ b13 ∧ (b13 ≤ (↑n : Int) ∨ b13 ≤ 0) ∧ br0.length = ar0.length := hinv
  have hmu : (((↑n : Int) - b13).toNat) < k_ + 1 := hmu
  cases h1 : decide (b13 < (↑n : Int)) with
  | true =>
    have h1p := of_decide_eq_true h1
    try have := bd_len (by first | assumption | omega)
    try have := bd_sz (by first | assumption | omega) (by first | assumption | omega) (by first | assumption | omega)
    have o0 : (0 : Int) ≤ b13 := by first | assumption | omega | (simp_all; done)
    have o1 : b13 < (↑n : Int) := by first | assumption | omega | (simp_all; done)
    cases h2 : IntKind.i64.wrap (a12 + f b13.toNat) == L with
    | true =>
      have h2p := eq_of_beq h2
      try have := bd_len (by first | assumption | omega)
      try have := bd_sz (by first | assumption | omega) (by first | assumption | omega) (by first | assumption | omega)
      have o2 : (0 : Int) ≤ a12 := by first | assumption | omega | (simp_all; done)
      try have := IntWalk.i64_in (L + 1) (by omega)
      have o3 : a12 < (↑(IntKind.i64.wrap (L + (1 : Int))).toNat : Int) := by first | assumption | omega | (simp_all; done)
      have o4 : (0 : Nat) + a12.toNat < (Col.bools br0).len := by first | assumption | omega | (simp only [List.length_append, List.length_cons, List.length_nil, List.length_map]; omega) | rfl | (exact Nat.le_refl _) | (simp [Col.len]; done) | (simp only [Col.len, zero_bool, zero_int, List.length_replicate, List.length_set] at *; omega) | (simp_all; done)
      try have := IntWalk.i64_in (b13 + 1) (by omega)
      have o5 : (0 : Int) ≤ IntKind.i64.wrap (b13 + (1 : Int)) := by first | assumption | omega | (simp_all; done)
      have o6 : IntKind.i64.wrap (b13 + (1 : Int)) ≤ (↑n : Int) ∨ IntKind.i64.wrap (b13 + (1 : Int)) ≤ (0 : Int) := by first | assumption | omega | (simp_all; done)
      have o7 : (br0.set ((0 : Nat) + a12.toNat) true).length = ar0.length := by first | assumption | omega | (simp only [List.length_append, List.length_cons, List.length_nil, List.length_map]; omega) | (simp_all; done)
      have o8 : ((↑n : Int) - IntKind.i64.wrap (b13 + (1 : Int))).toNat < ((↑n : Int) - b13).toNat := by first | assumption | omega | (simp_all; done)
      exact ⟨[.b true, .b true, .b true, .b true, .b true, .b true, .b true, .b true, .b true, .b true, .b true, .b true], kmp (by kernel_rfl) (And.intro h1 (And.intro (And.intro o0 o1) (And.intro h2 (And.intro h2 (And.intro h2 (And.intro h2 (And.intro h2 (And.intro h2 (And.intro h2 (And.intro h2 (And.intro h2 (And.intro h2 (And.intro (rfl : true = true) (And.intro (And.intro o2 o3) (And.intro (And.intro (rfl : (IntKind.i64.wrap (L + (1 : Int))).toNat = (IntKind.i64.wrap (L + (1 : Int))).toNat) o4) (L38ab.nx L j l n f m g a12 ar0 (k_ := k_) (z_ := (b13, br0)) ((IntKind.i64.wrap (b13 + 1), br0.set (0 + a12.toNat) true)) (And.intro o5 (And.intro o6 o7)) o8 (by first | (simp only [L38ab.N, h1, h2, cond_true, cond_false]; done) | (try unfold L38ab.N; try simp only [h1, cond_true, cond_false]; try simp only [h2, cond_true, cond_false]; try rfl; done)) PopOk.same))))))))))))))))⟩
    | false =>
      have h2p := ne_of_beq_false h2
      cases h3 : decide (IntKind.i64.wrap (IntKind.i64.wrap (a12 + f b13.toNat) + j) < L) with
      | true =>
        have h3p := of_decide_eq_true h3
        try have := bd_len (by first | assumption | omega)
        try have := bd_sz (by first | assumption | omega) (by first | assumption | omega) (by first | assumption | omega)
        have o9 : m ≤ (9223372036854775807 : Nat) := by first | assumption | omega | (simp_all; done)
        cases h4 : r36.v (IntKind.i64.wrap (a12 + f b13.toNat)) j l m g with
        | true =>
          try have := bd_len (by first | assumption | omega)
          try have := bd_sz (by first | assumption | omega) (by first | assumption | omega) (by first | assumption | omega)
          try have := IntWalk.i64_in (a12 + f b13.toNat) (by omega)
          try have := IntWalk.i64_in (IntKind.i64.wrap (a12 + f b13.toNat) + j) (by omega)
          have o10 : (0 : Int) ≤ IntKind.i64.wrap (IntKind.i64.wrap (a12 + f b13.toNat) + j) := by first | assumption | omega | (apply wr_0 <;> first | assumption | omega) | (simp_all; done)
          try have := IntWalk.i64_in (L + 1) (by omega)
          have o11 : IntKind.i64.wrap (IntKind.i64.wrap (a12 + f b13.toNat) + j) < (↑(IntKind.i64.wrap (L + (1 : Int))).toNat : Int) := by first | assumption | omega | (simp_all; done)
          have o12 : (0 : Nat) + (IntKind.i64.wrap (IntKind.i64.wrap (a12 + f b13.toNat) + j)).toNat < (Col.bools br0).len := by first | assumption | omega | (simp only [List.length_append, List.length_cons, List.length_nil, List.length_map]; omega) | rfl | (exact Nat.le_refl _) | (simp [Col.len]; done) | (simp only [Col.len, zero_bool, zero_int, List.length_replicate, List.length_set] at *; omega) | (simp_all; done)
          cases h5 : br0.getD (0 + (IntKind.i64.wrap (IntKind.i64.wrap (a12 + f b13.toNat) + j)).toNat) false with
          | true =>
            try have := bd_len (by first | assumption | omega)
            try have := bd_sz (by first | assumption | omega) (by first | assumption | omega) (by first | assumption | omega)
            have o2 : (0 : Int) ≤ a12 := by first | assumption | omega | (simp_all; done)
            try have := IntWalk.i64_in (L + 1) (by omega)
            have o3 : a12 < (↑(IntKind.i64.wrap (L + (1 : Int))).toNat : Int) := by first | assumption | omega | (simp_all; done)
            have o4 : (0 : Nat) + a12.toNat < (Col.bools br0).len := by first | assumption | omega | (simp only [List.length_append, List.length_cons, List.length_nil, List.length_map]; omega) | rfl | (exact Nat.le_refl _) | (simp [Col.len]; done) | (simp only [Col.len, zero_bool, zero_int, List.length_replicate, List.length_set] at *; omega) | (simp_all; done)
            try have := IntWalk.i64_in (b13 + 1) (by omega)
            have o5 : (0 : Int) ≤ IntKind.i64.wrap (b13 + (1 : Int)) := by first | assumption | omega | (simp_all; done)
            have o6 : IntKind.i64.wrap (b13 + (1 : Int)) ≤ (↑n : Int) ∨ IntKind.i64.wrap (b13 + (1 : Int)) ≤ (0 : Int) := by first | assumption | omega | (simp_all; done)
            have o7 : (br0.set ((0 : Nat) + a12.toNat) true).length = ar0.length := by first | assumption | omega | (simp only [List.length_append, List.length_cons, List.length_nil, List.length_map]; omega) | (simp_all; done)
            have o8 : ((↑n : Int) - IntKind.i64.wrap (b13 + (1 : Int))).toNat < ((↑n : Int) - b13).toNat := by first | assumption | omega | (simp_all; done)
            exact ⟨[.b true, .b false, .b false, .b false, .b false, .b false, .b false, .b true, .b true, .b true, .b true, .b true, .ret (AV.bool (r36.v (IntKind.i64.wrap (a12 + f b13.toNat)) j l m g)) (L38ab.h0 L j l n f m g a12 ar0 b13 br0), .b false, .b true, .b false, .b true, .b true, .b true, .b true, .b true, .b true, .b false, .b true, .b false, .b true], kmp (by kernel_rfl) (And.intro h1 (And.intro (And.intro o0 o1) (And.intro h2 (And.intro h2 (And.intro h2 (And.intro h2 (And.intro h2 (And.intro h2 (And.intro h3 (And.intro h3 (And.intro h3 (And.intro h3 (And.intro h3 (And.intro (r36 (IntKind.i64.wrap (a12 + f b13.toNat)) (j) (l) (m) (g) o9 (L38ab.h0 L j l n f m g a12 ar0 b13 br0)) (And.intro h2 (And.intro h3 (And.intro h2 (And.intro h4 (And.intro h4 (And.intro h4 (And.intro h4 (And.intro h4 (And.intro (And.intro o10 o11) (And.intro h4 (And.intro (And.intro (rfl : (IntKind.i64.wrap (L + (1 : Int))).toNat = (IntKind.i64.wrap (L + (1 : Int))).toNat) (And.intro (show (1 : Nat) = (1 : Nat) by first | decide | exact Int.NonNeg.mk _) o12)) (And.intro h2 (And.intro h4 (And.intro h2 (And.intro h5 (And.intro (And.intro o2 o3) (And.intro (And.intro (rfl : (IntKind.i64.wrap (L + (1 : Int))).toNat = (IntKind.i64.wrap (L + (1 : Int))).toNat) o4) (L38ab.nx L j l n f m g a12 ar0 (k_ := k_) (z_ := (b13, br0)) ((IntKind.i64.wrap (b13 + 1), br0.set (0 + a12.toNat) true)) (And.intro o5 (And.intro o6 o7)) o8 (by first | (simp only [L38ab.N, h1, h2, h3, h4, h5, cond_true, cond_false]; done) | (try unfold L38ab.N; try simp only [h1, cond_true, cond_false]; try simp only [h2, cond_true, cond_false]; try simp only [h3, cond_true, cond_false]; try simp only [h4, cond_true, cond_false]; try simp only [h5, cond_true, cond_false]; try rfl; done)) PopOk.same))))))))))))))))))))))))))))))))⟩
          | false =>
            try have := bd_len (by first | assumption | omega)
            try have := bd_sz (by first | assumption | omega) (by first | assumption | omega) (by first | assumption | omega)
            try have := IntWalk.i64_in (b13 + 1) (by omega)
            have o5 : (0 : Int) ≤ IntKind.i64.wrap (b13 + (1 : Int)) := by first | assumption | omega | (simp_all; done)
            have o6 : IntKind.i64.wrap (b13 + (1 : Int)) ≤ (↑n : Int) ∨ IntKind.i64.wrap (b13 + (1 : Int)) ≤ (0 : Int) := by first | assumption | omega | (simp_all; done)
            have o13 : br0.length = ar0.length := by first | assumption | omega | (simp only [List.length_append, List.length_cons, List.length_nil, List.length_map]; omega) | (simp_all; done)
            have o8 : ((↑n : Int) - IntKind.i64.wrap (b13 + (1 : Int))).toNat < ((↑n : Int) - b13).toNat := by first | assumption | omega | (simp_all; done)
            exact ⟨[.b true, .b false, .b false, .b false, .b false, .b false, .b false, .b true, .b true, .b true, .b true, .b true, .ret (AV.bool (r36.v (IntKind.i64.wrap (a12 + f b13.toNat)) j l m g)) (L38ab.h0 L j l n f m g a12 ar0 b13 br0), .b false, .b true, .b false, .b true, .b true, .b true, .b true, .b true, .b true, .b false, .b true, .b false, .b false], kmp (by kernel_rfl) (And.intro h1 (And.intro (And.intro o0 o1) (And.intro h2 (And.intro h2 (And.intro h2 (And.intro h2 (And.intro h2 (And.intro h2 (And.intro h3 (And.intro h3 (And.intro h3 (And.intro h3 (And.intro h3 (And.intro (r36 (IntKind.i64.wrap (a12 + f b13.toNat)) (j) (l) (m) (g) o9 (L38ab.h0 L j l n f m g a12 ar0 b13 br0)) (And.intro h2 (And.intro h3 (And.intro h2 (And.intro h4 (And.intro h4 (And.intro h4 (And.intro h4 (And.intro h4 (And.intro (And.intro o10 o11) (And.intro h4 (And.intro (And.intro (rfl : (IntKind.i64.wrap (L + (1 : Int))).toNat = (IntKind.i64.wrap (L + (1 : Int))).toNat) (And.intro (show (1 : Nat) = (1 : Nat) by first | decide | exact Int.NonNeg.mk _) o12)) (And.intro h2 (And.intro h4 (And.intro h2 (And.intro h5 (L38ab.nx L j l n f m g a12 ar0 (k_ := k_) (z_ := (b13, br0)) ((IntKind.i64.wrap (b13 + 1), br0)) (And.intro o5 (And.intro o6 o13)) o8 (by first | (simp only [L38ab.N, h1, h2, h3, h4, h5, cond_true, cond_false]; done) | (try unfold L38ab.N; try simp only [h1, cond_true, cond_false]; try simp only [h2, cond_true, cond_false]; try simp only [h3, cond_true, cond_false]; try simp only [h4, cond_true, cond_false]; try simp only [h5, cond_true, cond_false]; try rfl; done)) PopOk.same))))))))))))))))))))))))))))))⟩
        | false =>
          try have := bd_len (by first | assumption | omega)
          try have := bd_sz (by first | assumption | omega) (by first | assumption | omega) (by first | assumption | omega)
          try have := IntWalk.i64_in (b13 + 1) (by omega)
          have o5 : (0 : Int) ≤ IntKind.i64.wrap (b13 + (1 : Int)) := by first | assumption | omega | (simp_all; done)
          have o6 : IntKind.i64.wrap (b13 + (1 : Int)) ≤ (↑n : Int) ∨ IntKind.i64.wrap (b13 + (1 : Int)) ≤ (0 : Int) := by first | assumption | omega | (simp_all; done)
          have o13 : br0.length = ar0.length := by first | assumption | omega | (simp only [List.length_append, List.length_cons, List.length_nil, List.length_map]; omega) | (simp_all; done)
          have o8 : ((↑n : Int) - IntKind.i64.wrap (b13 + (1 : Int))).toNat < ((↑n : Int) - b13).toNat := by first | assumption | omega | (simp_all; done)
          exact ⟨[.b true, .b false, .b false, .b false, .b false, .b false, .b false, .b true, .b true, .b true, .b true, .b true, .ret (AV.bool (r36.v (IntKind.i64.wrap (a12 + f b13.toNat)) j l m g)) (L38ab.h0 L j l n f m g a12 ar0 b13 br0), .b false, .b true, .b false, .b false, .b false, .b false, .b false, .b false, .b false, .b false, .b false, .b false, .b false], kmp (by kernel_rfl) (And.intro h1 (And.intro (And.intro o0 o1) (And.intro h2 (And.intro h2 (And.intro h2 (And.intro h2 (And.intro h2 (And.intro h2 (And.intro h3 (And.intro h3 (And.intro h3 (And.intro h3 (And.intro h3 (And.intro (r36 (IntKind.i64.wrap (a12 + f b13.toNat)) (j) (l) (m) (g) o9 (L38ab.h0 L j l n f m g a12 ar0 b13 br0)) (And.intro h2 (And.intro h3 (And.intro h2 (And.intro h4 (And.intro h4 (And.intro h4 (And.intro h4 (And.intro h4 (And.intro h4 (And.intro h2 (And.intro h4 (And.intro h2 (And.intro (rfl : false = false) (L38ab.nx L j l n f m g a12 ar0 (k_ := k_) (z_ := (b13, br0)) ((IntKind.i64.wrap (b13 + 1), br0)) (And.intro o5 (And.intro o6 o13)) o8 (by first | (simp only [L38ab.N, h1, h2, h3, h4, cond_true, cond_false]; done) | (try unfold L38ab.N; try simp only [h1, cond_true, cond_false]; try simp only [h2, cond_true, cond_false]; try simp only [h3, cond_true, cond_false]; try simp only [h4, cond_true, cond_false]; try rfl; done)) PopOk.same))))))))))))))))))))))))))))⟩
      | false =>
        have h3p := of_decide_eq_false h3
        try have := bd_len (by first | assumption | omega)
        try have := bd_sz (by first | assumption | omega) (by first | assumption | omega) (by first | assumption | omega)
        try have := IntWalk.i64_in (b13 + 1) (by omega)
        have o5 : (0 : Int) ≤ IntKind.i64.wrap (b13 + (1 : Int)) := by first | assumption | omega | (simp_all; done)
        have o6 : IntKind.i64.wrap (b13 + (1 : Int)) ≤ (↑n : Int) ∨ IntKind.i64.wrap (b13 + (1 : Int)) ≤ (0 : Int) := by first | assumption | omega | (simp_all; done)
        have o13 : br0.length = ar0.length := by first | assumption | omega | (simp only [List.length_append, List.length_cons, List.length_nil, List.length_map]; omega) | (simp_all; done)
        have o8 : ((↑n : Int) - IntKind.i64.wrap (b13 + (1 : Int))).toNat < ((↑n : Int) - b13).toNat := by first | assumption | omega | (simp_all; done)
        exact ⟨[.b true, .b false, .b false, .b false, .b false, .b false, .b false, .b false, .b false, .b false, .b false, .b false, .b false, .b false, .b false, .b false, .b false, .b false, .b false, .b false, .b false, .b false, .b false, .b false, .b false], kmp (by kernel_rfl) (And.intro h1 (And.intro (And.intro o0 o1) (And.intro h2 (And.intro h2 (And.intro h2 (And.intro h2 (And.intro h2 (And.intro h2 (And.intro h3 (And.intro h3 (And.intro h3 (And.intro h3 (And.intro h3 (And.intro h2 (And.intro h3 (And.intro h2 (And.intro (rfl : false = false) (And.intro (rfl : false = false) (And.intro (rfl : false = false) (And.intro (rfl : false = false) (And.intro (rfl : false = false) (And.intro (rfl : false = false) (And.intro h2 (And.intro (rfl : false = false) (And.intro h2 (And.intro (rfl : false = false) (L38ab.nx L j l n f m g a12 ar0 (k_ := k_) (z_ := (b13, br0)) ((IntKind.i64.wrap (b13 + 1), br0)) (And.intro o5 (And.intro o6 o13)) o8 (by first | (simp only [L38ab.N, h1, h2, h3, cond_true, cond_false]; done) | (try unfold L38ab.N; try simp only [h1, cond_true, cond_false]; try simp only [h2, cond_true, cond_false]; try simp only [h3, cond_true, cond_false]; try rfl; done)) PopOk.same)))))))))))))))))))))))))))⟩
  | false =>
    have h1p := of_decide_eq_false h1
    exact ⟨[.b false], kmp (by kernel_rfl) (And.intro h1 (L38ab.en L j l n f m g a12 ar0 (k_ := k_) (z_ := (b13, br0)) (.e0 (br0) : L38ab.O) (by first | (simp only [L38ab.N, h1, cond_true, cond_false]; done) | (try unfold L38ab.N; try simp only [h1, cond_true, cond_false]; try rfl; done)) PopOk.same))⟩
theorem L38ab.e0 (L : Int) (j : Int) (l : Int) (n : Nat) (f : Nat → Int) (hn : n ≤ 9223372036854775807) (m : Nat) (g : Nat → Int) (hm : m ≤ 9223372036854775807) (hk : LOk L j l n f m g) (a12 : Int) (ar0 : List Bool) (i38a_0 : a12 ≤ IntKind.i64.wrap (L - 1)) (i38a_1 : 0 - 1 ≤ a12 ∨ a12 = IntKind.i64.wrap (L - 1)) (i38a_2 : ar0.length = (List.replicate (IntKind.i64.wrap (L + 1)).toNat false).length) (k1_1 : decide (a12 ≥ 0) = true) (p1_1 : a12 ≥ 0) (b13 : Int) (br0 : List Bool) (hinv : L38ab.inv L j l n f m g a12 ar0 b13 br0) (a0 : List Bool) (hN : L38ab.run L j l n f m g a12 b13 br0 = (.e0 a0 : L38ab.O)) : LoopTo Try.prog (loopN Try.f38 1) (L38ab.T L j l n f m g a12 ar0 b13 br0) (L38ab.H L j l n f m g a12 ar0 b13 br0) (Exit.exit 2) (L38ab.X L j l n f m g a12 ar0 (.e0 a0 : L38ab.O)) (L38ab.XH L j l n f m g a12 ar0 (.e0 a0 : L38ab.O)) := by
  have h_ := L38ab.spec L j l n f hn m g hm hk a12 ar0 i38a_0 i38a_1 i38a_2 k1_1 p1_1 ((((↑n : Int) - b13).toNat) + 1) (b13, br0) hinv (Nat.lt_succ_self _)
  unfold L38ab.run at hN
  simp only [hN] at h_
  exact h_
theorem L38ab.len0_0 (L : Int) (j : Int) (l : Int) (n : Nat) (f : Nat → Int) (m : Nat) (g : Nat → Int) (a12 : Int) : ∀ (m_ : Nat) (b13 : Int) (br0 : List Bool) (a0_ : List Bool), L38ab.N L j l n f m g a12 m_ b13 br0 = (.e0 a0_ : L38ab.O) → (a0_).length ≤ (br0).length + m_ := by
  intro m_
  induction m_ with
  | zero =>
    intro b13 br0 a0_ h_
    simp only [L38ab.N] at h_
    cases h_
    first | exact Nat.zero_le _ | omega
  | succ m_ ih_ =>
    intro b13 br0 a0_ h_
    cases h1 : decide (b13 < (↑n : Int)) with
    | true =>
      have h1p := of_decide_eq_true h1
      cases h2 : IntKind.i64.wrap (a12 + f b13.toNat) == L with
      | true =>
        have h2p := eq_of_beq h2
        (simp only [L38ab.N, h1, h2, cond_true, cond_false] at h_; first | (have := ih_ _ _ _ h_; (try simp only [List.length_append, List.length_cons, List.length_nil, List.length_set] at this); omega) | (cases h_; done) | (cases h_; omega))
      | false =>
        have h2p := ne_of_beq_false h2
        cases h3 : decide (IntKind.i64.wrap (IntKind.i64.wrap (a12 + f b13.toNat) + j) < L) with
        | true =>
          have h3p := of_decide_eq_true h3
          cases h4 : r36.v (IntKind.i64.wrap (a12 + f b13.toNat)) j l m g with
          | true =>
            cases h5 : br0.getD (0 + (IntKind.i64.wrap (IntKind.i64.wrap (a12 + f b13.toNat) + j)).toNat) false with
            | true =>
              (simp only [L38ab.N, h1, h2, h3, h4, h5, cond_true, cond_false] at h_; first | (have := ih_ _ _ _ h_; (try simp only [List.length_append, List.length_cons, List.length_nil, List.length_set] at this); omega) | (cases h_; done) | (cases h_; omega))
            | false =>
              (simp only [L38ab.N, h1, h2, h3, h4, h5, cond_true, cond_false] at h_; first | (have := ih_ _ _ _ h_; (try simp only [List.length_append, List.length_cons, List.length_nil, List.length_set] at this); omega) | (cases h_; done) | (cases h_; omega))
          | false =>
            (simp only [L38ab.N, h1, h2, h3, h4, cond_true, cond_false] at h_; first | (have := ih_ _ _ _ h_; (try simp only [List.length_append, List.length_cons, List.length_nil, List.length_set] at this); omega) | (cases h_; done) | (cases h_; omega))
        | false =>
          have h3p := of_decide_eq_false h3
          (simp only [L38ab.N, h1, h2, h3, cond_true, cond_false] at h_; first | (have := ih_ _ _ _ h_; (try simp only [List.length_append, List.length_cons, List.length_nil, List.length_set] at this); omega) | (cases h_; done) | (cases h_; omega))
    | false =>
      have h1p := of_decide_eq_false h1
      (simp only [L38ab.N, h1, cond_true, cond_false] at h_; first | (have := ih_ _ _ _ h_; (try simp only [List.length_append, List.length_cons, List.length_nil, List.length_set] at this); omega) | (cases h_; done) | (cases h_; omega))
theorem L38ab.lenR0_0 (L : Int) (j : Int) (l : Int) (n : Nat) (f : Nat → Int) (m : Nat) (g : Nat → Int) (a12 : Int) {b13 : Int} {br0 : List Bool} {a0_ : List Bool} (h_ : L38ab.run L j l n f m g a12 b13 br0 = (.e0 a0_ : L38ab.O)) : (a0_).length ≤ (br0).length + ((((↑n : Int) - b13).toNat) + 1) := L38ab.len0_0 L j l n f m g a12 _ b13 br0 a0_ h_
theorem L38ab.leq0_0 (L : Int) (j : Int) (l : Int) (n : Nat) (f : Nat → Int) (m : Nat) (g : Nat → Int) (a12 : Int) : ∀ (m_ : Nat) (b13 : Int) (br0 : List Bool) (a0_ : List Bool), L38ab.N L j l n f m g a12 m_ b13 br0 = (.e0 a0_ : L38ab.O) → (a0_).length = (br0).length := by
  intro m_
  induction m_ with
  | zero =>
    intro b13 br0 a0_ h_
    simp only [L38ab.N] at h_
    cases h_
    try rfl
  | succ m_ ih_ =>
    intro b13 br0 a0_ h_
    cases h1 : decide (b13 < (↑n : Int)) with
    | true =>
      have h1p := of_decide_eq_true h1
      cases h2 : IntKind.i64.wrap (a12 + f b13.toNat) == L with
      | true =>
        have h2p := eq_of_beq h2
        (simp only [L38ab.N, h1, h2, cond_true, cond_false] at h_; first | (have q_ := ih_ _ _ _ h_; (try simp only [List.length_set] at *); omega) | (cases h_; done) | (cases h_; rfl))
      | false =>
        have h2p := ne_of_beq_false h2
        cases h3 : decide (IntKind.i64.wrap (IntKind.i64.wrap (a12 + f b13.toNat) + j) < L) with
        | true =>
          have h3p := of_decide_eq_true h3
          cases h4 : r36.v (IntKind.i64.wrap (a12 + f b13.toNat)) j l m g with
          | true =>
            cases h5 : br0.getD (0 + (IntKind.i64.wrap (IntKind.i64.wrap (a12 + f b13.toNat) + j)).toNat) false with
            | true =>
              (simp only [L38ab.N, h1, h2, h3, h4, h5, cond_true, cond_false] at h_; first | (have q_ := ih_ _ _ _ h_; (try simp only [List.length_set] at *); omega) | (cases h_; done) | (cases h_; rfl))
            | false =>
              (simp only [L38ab.N, h1, h2, h3, h4, h5, cond_true, cond_false] at h_; first | (have q_ := ih_ _ _ _ h_; (try simp only [List.length_set] at *); omega) | (cases h_; done) | (cases h_; rfl))
          | false =>
            (simp only [L38ab.N, h1, h2, h3, h4, cond_true, cond_false] at h_; first | (have q_ := ih_ _ _ _ h_; (try simp only [List.length_set] at *); omega) | (cases h_; done) | (cases h_; rfl))
        | false =>
          have h3p := of_decide_eq_false h3
          (simp only [L38ab.N, h1, h2, h3, cond_true, cond_false] at h_; first | (have q_ := ih_ _ _ _ h_; (try simp only [List.length_set] at *); omega) | (cases h_; done) | (cases h_; rfl))
    | false =>
      have h1p := of_decide_eq_false h1
      (simp only [L38ab.N, h1, cond_true, cond_false] at h_; first | (have q_ := ih_ _ _ _ h_; (try simp only [List.length_set] at *); omega) | (cases h_; done) | (cases h_; rfl))
theorem L38ab.leqR0_0 (L : Int) (j : Int) (l : Int) (n : Nat) (f : Nat → Int) (m : Nat) (g : Nat → Int) (a12 : Int) {b13 : Int} {br0 : List Bool} {a0_ : List Bool} (h_ : L38ab.run L j l n f m g a12 b13 br0 = (.e0 a0_ : L38ab.O)) : (a0_).length = (br0).length := L38ab.leq0_0 L j l n f m g a12 _ b13 br0 a0_ h_

inductive L38a.O where
  | e0 (a0 : List Bool)
noncomputable def L38a.T (L : Int) (j : Int) (l : Int) (n : Nat) (f : Nat → Int) (m : Nat) (g : Nat → Int) (a12 : Int) (ar0 : List Bool) : List AV := mkT 65 [(0, AV.int IntKind.i64 L), (1, AV.int IntKind.i64 j), (2, AV.int IntKind.i64 l), (3, AV.sl 1 n fun (i : Nat) => AV.int IntKind.i64 (f i)), (4, AV.sl 1 m fun (i : Nat) => AV.int IntKind.i64 (g i)), (11, AV.ms 0 (IntKind.i64.wrap (L + 1)).toNat 1 0 (IntKind.i64.wrap (L + 1)).toNat), (12, AV.int IntKind.i64 a12)]
noncomputable def L38a.H (L : Int) (j : Int) (l : Int) (n : Nat) (f : Nat → Int) (m : Nat) (g : Nat → Int) (a12 : Int) (ar0 : List Bool) : AHeap := [AObj.row 1 (IntKind.i64.wrap (L + 1)).toNat (Col.bools ar0)]
def L38a.inv (L : Int) (j : Int) (l : Int) (n : Nat) (f : Nat → Int) (m : Nat) (g : Nat → Int) (a12 : Int) (ar0 : List Bool) : Prop := a12 ≤ IntKind.i64.wrap (L - 1) ∧ (0 - 1 ≤ a12 ∨ a12 = IntKind.i64.wrap (L - 1)) ∧ ar0.length = (List.replicate (IntKind.i64.wrap (L + 1)).toNat false).length
noncomputable def L38a.mu (L : Int) (j : Int) (l : Int) (n : Nat) (f : Nat → Int) (m : Nat) (g : Nat → Int) (a12 : Int) (ar0 : List Bool) : Nat := (a12 - (0 - 1)).toNat
noncomputable def L38a.E : L38a.O → Exit
  | .e0 a0 => Exit.exit 0
noncomputable def L38a.X (L : Int) (j : Int) (l : Int) (n : Nat) (f : Nat → Int) (m : Nat) (g : Nat → Int) : L38a.O → List AV
  | .e0 a0 => mkT 65 [(11, (AV.ms 0 (IntKind.i64.wrap (L + 1)).toNat 1 0 (IntKind.i64.wrap (L + 1)).toNat))]
noncomputable def L38a.XH (L : Int) (j : Int) (l : Int) (n : Nat) (f : Nat → Int) (m : Nat) (g : Nat → Int) : L38a.O → AHeap
  | .e0 a0 => ((AObj.row 1 ((IntKind.i64.wrap (L + 1)).toNat) (Col.bools a0)) :: ([]))
noncomputable def L38a.N (L : Int) (j : Int) (l : Int) (n : Nat) (f : Nat → Int) (m : Nat) (g : Nat → Int) : Nat → Int → (List Bool) → L38a.O
  | 0, _, ar0 => .e0 ar0
  | k_ + 1, a12, ar0 => (bif decide (a12 ≥ 0) then (match L38ab.run L j l n f m g a12 0 ar0 with | .e0 h2d0 => (L38a.N L j l n f m g k_ (IntKind.i64.wrap (a12 - 1)) (h2d0)) ) else (.e0 (ar0)))
noncomputable def L38a.run (L : Int) (j : Int) (l : Int) (n : Nat) (f : Nat → Int) (m : Nat) (g : Nat → Int) (a12 : Int) (ar0 : List Bool) : L38a.O := L38a.N L j l n f m g (((a12 - (0 - 1)).toNat) + 1) a12 ar0
def L38a.Next (L : Int) (j : Int) (l : Int) (n : Nat) (f : Nat → Int) (m : Nat) (g : Nat → Int) (k_ : Nat) (z_ : Int × (List Bool)) (T_ : List AV) (h_ : AHeap) : Prop := LNextP (fun (z_ : Int × (List Bool)) => L38a.T L j l n f m g z_.1 z_.2) (fun (z_ : Int × (List Bool)) => L38a.H L j l n f m g z_.1 z_.2) (fun (z_ : Int × (List Bool)) => L38a.inv L j l n f m g z_.1 z_.2) (fun (z_ : Int × (List Bool)) => L38a.mu L j l n f m g z_.1 z_.2) (fun (k_ : Nat) (z_ : Int × (List Bool)) => L38a.N L j l n f m g k_ z_.1 z_.2) k_ z_ T_ h_
def L38a.End (L : Int) (j : Int) (l : Int) (n : Nat) (f : Nat → Int) (m : Nat) (g : Nat → Int) (k_ : Nat) (z_ : Int × (List Bool)) (e_ : Exit) (T_ : List AV) (h_ : AHeap) : Prop := LEndP (fun (z_ : Int × (List Bool)) => L38a.H L j l n f m g z_.1 z_.2) (fun (k_ : Nat) (z_ : Int × (List Bool)) => L38a.N L j l n f m g k_ z_.1 z_.2) L38a.E (L38a.X L j l n f m g) (L38a.XH L j l n f m g) k_ z_ e_ T_ h_
theorem L38a.nx (L : Int) (j : Int) (l : Int) (n : Nat) (f : Nat → Int) (m : Nat) (g : Nat → Int) {k_ : Nat} {z_ : Int × (List Bool)} {h_ : AHeap} (s_ : Int × (List Bool)) (h1 : L38a.inv L j l n f m g s_.1 s_.2) (h2 : L38a.mu L j l n f m g s_.1 s_.2 < L38a.mu L j l n f m g z_.1 z_.2) (h3 : L38a.N L j l n f m g k_ s_.1 s_.2 = L38a.N L j l n f m g (k_ + 1) z_.1 z_.2) (h4 : PopOk (L38a.H L j l n f m g z_.1 z_.2) h_ (L38a.T L j l n f m g s_.1 s_.2) (L38a.H L j l n f m g s_.1 s_.2)) : LNextP (fun (z_ : Int × (List Bool)) => L38a.T L j l n f m g z_.1 z_.2) (fun (z_ : Int × (List Bool)) => L38a.H L j l n f m g z_.1 z_.2) (fun (z_ : Int × (List Bool)) => L38a.inv L j l n f m g z_.1 z_.2) (fun (z_ : Int × (List Bool)) => L38a.mu L j l n f m g z_.1 z_.2) (fun (k_ : Nat) (z_ : Int × (List Bool)) => L38a.N L j l n f m g k_ z_.1 z_.2) k_ z_ (L38a.T L j l n f m g s_.1 s_.2) h_ := LNextP.mk (Tm := (fun (z_ : Int × (List Bool)) => L38a.T L j l n f m g z_.1 z_.2)) (Hp := (fun (z_ : Int × (List Bool)) => L38a.H L j l n f m g z_.1 z_.2)) (inv := (fun (z_ : Int × (List Bool)) => L38a.inv L j l n f m g z_.1 z_.2)) (mu := (fun (z_ : Int × (List Bool)) => L38a.mu L j l n f m g z_.1 z_.2)) (l := (fun (k_ : Nat) (z_ : Int × (List Bool)) => L38a.N L j l n f m g k_ z_.1 z_.2)) s_ h1 h2 h3 h4
theorem L38a.en (L : Int) (j : Int) (l : Int) (n : Nat) (f : Nat → Int) (m : Nat) (g : Nat → Int) {k_ : Nat} {z_ : Int × (List Bool)} {h_ : AHeap} (o_ : L38a.O) (h3 : L38a.N L j l n f m g (k_ + 1) z_.1 z_.2 = o_) (h4 : PopOk (L38a.H L j l n f m g z_.1 z_.2) h_ (L38a.X L j l n f m g o_) (L38a.XH L j l n f m g o_)) : LEndP (fun (z_ : Int × (List Bool)) => L38a.H L j l n f m g z_.1 z_.2) (fun (k_ : Nat) (z_ : Int × (List Bool)) => L38a.N L j l n f m g k_ z_.1 z_.2) L38a.E (L38a.X L j l n f m g) (L38a.XH L j l n f m g) k_ z_ (L38a.E o_) (L38a.X L j l n f m g o_) h_ := LEndP.mk (Hp := (fun (z_ : Int × (List Bool)) => L38a.H L j l n f m g z_.1 z_.2)) (l := (fun (k_ : Nat) (z_ : Int × (List Bool)) => L38a.N L j l n f m g k_ z_.1 z_.2)) (oE := L38a.E) (oT := L38a.X L j l n f m g) (oH := L38a.XH L j l n f m g) o_ h3 h4
theorem L38a.spec (L : Int) (j : Int) (l : Int) (n : Nat) (f : Nat → Int) (hn : n ≤ 9223372036854775807) (m : Nat) (g : Nat → Int) (hm : m ≤ 9223372036854775807) (hk : LOk L j l n f m g) (k_ : Nat) (z_ : Int × (List Bool)) (hi_ : L38a.inv L j l n f m g z_.1 z_.2) (hm_ : L38a.mu L j l n f m g z_.1 z_.2 < k_) : LoopTo Try.prog (loopN Try.f38 0) (L38a.T L j l n f m g z_.1 z_.2) (L38a.H L j l n f m g z_.1 z_.2) (L38a.E (L38a.N L j l n f m g k_ z_.1 z_.2)) (L38a.X L j l n f m g (L38a.N L j l n f m g k_ z_.1 z_.2)) (L38a.XH L j l n f m g (L38a.N L j l n f m g k_ z_.1 z_.2)) := by
  refine LoopTo.fuelP mix (fun (z_ : Int × (List Bool)) => L38a.T L j l n f m g z_.1 z_.2) (fun (z_ : Int × (List Bool)) => L38a.H L j l n f m g z_.1 z_.2) (fun (z_ : Int × (List Bool)) => L38a.inv L j l n f m g z_.1 z_.2) (fun (z_ : Int × (List Bool)) => L38a.mu L j l n f m g z_.1 z_.2) (fun (k_ : Nat) (z_ : Int × (List Bool)) => L38a.N L j l n f m g k_ z_.1 z_.2) L38a.E (L38a.X L j l n f m g) (L38a.XH L j l n f m g) (others 65 [0, 1, 2, 3, 4, 11, 12]) (others 65 [10]) (others 65 [11]) ?_ k_ z_ hi_ hm_
  clear hm_ hi_ z_ k_
  intro k_ z_ hinv hmu
  obtain ⟨a12, ar0⟩ := z_
  have hinv : a12 ≤ IntKind.i64.wrap (L - 1) ∧ (0 - 1 ≤ a12 ∨ a12 = IntKind.i64.wrap (L - 1)) ∧ ar0.length = (List.replicate (IntKind.i64.wrap (L + 1)).toNat false).length := hinv
  have hmu : ((a12 - (0 - 1)).toNat) < k_ + 1 := hmu
  cases h1 : decide (a12 ≥ 0) with
  | true =>
    have h1p := of_decide_eq_true h1
    try have := bd_len (by first | assumption | omega)
    try have := bd_sz (by first | assumption | omega) (by first | assumption | omega) (by first | assumption | omega)
    try have := L38ab.lenR0_0 _ _ _ _ _ _ _ _ (by assumption); (try simp only [List.length_nil] at this)
    try have := L38ab.leqR0_0 _ _ _ _ _ _ _ _ (by assumption); (try simp only [List.length_replicate] at this)
    have o0 : n ≤ (9223372036854775807 : Nat) := by first | assumption | omega | (simp_all; done)
    have o1 : m ≤ (9223372036854775807 : Nat) := by first | assumption | omega | (simp_all; done)
    have o2 : LOk L j l n f m g := by first | assumption | (simp_all; done)
    try have := IntWalk.i64_in (L - 1) (by omega)
    have o3 : a12 ≤ IntKind.i64.wrap (L - (1 : Int)) := by first | assumption | omega | (simp_all; done)
    have o4 : (-1 : Int) ≤ a12 ∨ a12 = IntKind.i64.wrap (L - (1 : Int)) := by first | assumption | omega | (simp_all; done)
    try have := IntWalk.i64_in (L + 1) (by omega)
    have o5 : ar0.length = (List.replicate (IntKind.i64.wrap (L + (1 : Int))).toNat false).length := by first | assumption | omega | (simp only [List.length_append, List.length_cons, List.length_nil, List.length_map]; omega) | (simp_all; done)
    have o6 : decide (a12 ≥ (0 : Int)) = true := by first | assumption | omega | (simp_all; done)
    have o7 : a12 ≥ (0 : Int) := by first | assumption | omega | (simp_all; done)
    have o8 : (0 : Int) ≤ (↑n : Int) ∨ (0 : Int) ≤ (0 : Int) := by first | assumption | omega | (simp_all; done)
    cases h2 : L38ab.run L j l n f m g a12 0 ar0 with
    | e0 h2d0 =>
      try have := bd_len (by first | assumption | omega)
      try have := bd_sz (by first | assumption | omega) (by first | assumption | omega) (by first | assumption | omega)
      try have := L38ab.lenR0_0 _ _ _ _ _ _ _ _ (by assumption); (try simp only [List.length_nil] at this)
      try have := L38ab.leqR0_0 _ _ _ _ _ _ _ _ (by assumption); (try simp only [List.length_replicate] at this)
      try have := IntWalk.i64_in (a12 - 1) (by omega)
      try have := IntWalk.i64_in (L - 1) (by omega)
      have o9 : IntKind.i64.wrap (a12 - (1 : Int)) ≤ IntKind.i64.wrap (L - (1 : Int)) := by first | assumption | omega | (simp_all; done)
      have o10 : (-1 : Int) ≤ IntKind.i64.wrap (a12 - (1 : Int)) ∨ IntKind.i64.wrap (a12 - (1 : Int)) = IntKind.i64.wrap (L - (1 : Int)) := by first | assumption | omega | (simp_all; done)
      try have := IntWalk.i64_in (L + 1) (by omega)
      have o11 : h2d0.length = (List.replicate (IntKind.i64.wrap (L + (1 : Int))).toNat false).length := by first | assumption | omega | (simp only [List.length_append, List.length_cons, List.length_nil, List.length_map]; omega) | (simp_all; done)
      have o12 : (IntKind.i64.wrap (a12 - (1 : Int)) - (-1 : Int)).toNat < (a12 - (-1 : Int)).toNat := by first | assumption | omega | (simp_all; done)
      exact ⟨[.b true, .loop (others 65 [0, 1, 2, 3, 4, 11, 12, 13]) (Exit.exit 2) (L38ab.X L j l n f m g a12 ar0 (L38ab.O.e0 h2d0)) (L38ab.XH L j l n f m g a12 ar0 (L38ab.O.e0 h2d0))], kmp (by kernel_rfl) (And.intro h1 (And.intro (L38ab.e0 (L) (j) (l) (n) (f) o0 (m) (g) o1 o2 (a12) (ar0) o3 o4 o5 o6 o7 (0) (ar0) (And.intro (show (0 : Int) ≤ (0 : Int) by first | decide | exact Int.NonNeg.mk _) (And.intro o8 (rfl : ar0.length = ar0.length))) h2d0 h2) (L38a.nx L j l n f m g (k_ := k_) (z_ := (a12, ar0)) ((IntKind.i64.wrap (a12 - 1), h2d0)) (And.intro o9 (And.intro o10 o11)) o12 (by first | (simp only [L38a.N, h1, h2, cond_true, cond_false]; done) | (try unfold L38a.N; try simp only [h1, cond_true, cond_false]; try simp only [h2, cond_true, cond_false]; try rfl; done)) PopOk.same)))⟩
  | false =>
    have h1p := of_decide_eq_false h1
    exact ⟨[.b false], kmp (by kernel_rfl) (And.intro h1 (L38a.en L j l n f m g (k_ := k_) (z_ := (a12, ar0)) (.e0 (ar0) : L38a.O) (by first | (simp only [L38a.N, h1, cond_true, cond_false]; done) | (try unfold L38a.N; try simp only [h1, cond_true, cond_false]; try rfl; done)) PopOk.same))⟩
theorem L38a.e0 (L : Int) (j : Int) (l : Int) (n : Nat) (f : Nat → Int) (hn : n ≤ 9223372036854775807) (m : Nat) (g : Nat → Int) (hm : m ≤ 9223372036854775807) (hk : LOk L j l n f m g) (a12 : Int) (ar0 : List Bool) (hinv : L38a.inv L j l n f m g a12 ar0) (a0 : List Bool) (hN : L38a.run L j l n f m g a12 ar0 = (.e0 a0 : L38a.O)) : LoopTo Try.prog (loopN Try.f38 0) (L38a.T L j l n f m g a12 ar0) (L38a.H L j l n f m g a12 ar0) (Exit.exit 0) (L38a.X L j l n f m g (.e0 a0 : L38a.O)) (L38a.XH L j l n f m g (.e0 a0 : L38a.O)) := by
  have h_ := L38a.spec L j l n f hn m g hm hk (((a12 - (0 - 1)).toNat) + 1) (a12, ar0) hinv (Nat.lt_succ_self _)
  unfold L38a.run at hN
  simp only [hN] at h_
  exact h_
theorem L38a.leq0_0 (L : Int) (j : Int) (l : Int) (n : Nat) (f : Nat → Int) (m : Nat) (g : Nat → Int) : ∀ (m_ : Nat) (a12 : Int) (ar0 : List Bool) (a0_ : List Bool), L38a.N L j l n f m g m_ a12 ar0 = (.e0 a0_ : L38a.O) → (a0_).length = (ar0).length := by
  intro m_
  induction m_ with
  | zero =>
    intro a12 ar0 a0_ h_
    simp only [L38a.N] at h_
    cases h_
    try rfl
  | succ m_ ih_ =>
    intro a12 ar0 a0_ h_
    cases h1 : decide (a12 ≥ 0) with
    | true =>
      have h1p := of_decide_eq_true h1
      cases h2 : L38ab.run L j l n f m g a12 0 ar0 with
      | e0 h2d0 =>
        (simp only [L38a.N, h1, h2, cond_true, cond_false] at h_; first | (have q_ := ih_ _ _ _ h_; (try have := L38ab.lenR0_0 _ _ _ _ _ _ _ _ (by assumption); (try simp only [List.length_nil] at this)); (try have := L38ab.leqR0_0 _ _ _ _ _ _ _ _ (by assumption); (try simp only [List.length_replicate] at this)); (try simp only [List.length_set] at *); omega) | (cases h_; done) | (cases h_; rfl))
    | false =>
      have h1p := of_decide_eq_false h1
      (simp only [L38a.N, h1, cond_true, cond_false] at h_; first | (have q_ := ih_ _ _ _ h_; (try have := L38ab.lenR0_0 _ _ _ _ _ _ _ _ (by assumption); (try simp only [List.length_nil] at this)); (try have := L38ab.leqR0_0 _ _ _ _ _ _ _ _ (by assumption); (try simp only [List.length_replicate] at this)); (try simp only [List.length_set] at *); omega) | (cases h_; done) | (cases h_; rfl))
theorem L38a.leqR0_0 (L : Int) (j : Int) (l : Int) (n : Nat) (f : Nat → Int) (m : Nat) (g : Nat → Int) {a12 : Int} {ar0 : List Bool} {a0_ : List Bool} (h_ : L38a.run L j l n f m g a12 ar0 = (.e0 a0_ : L38a.O)) : (a0_).length = (ar0).length := L38a.leq0_0 L j l n f m g _ a12 ar0 a0_ h_

noncomputable def r38.v0 (L : Int) (j : Int) (l : Int) (n : Nat) (f : Nat → Int) (m : Nat) (g : Nat → Int) : Nat := (match L38a.run L j l n f m g (IntKind.i64.wrap (L - 1)) (List.replicate (IntKind.i64.wrap (L + 1)).toNat false) with | .e0 h1d0 => (IntKind.i64.wrap (L + 1)).toNat )
noncomputable def r38.v1 (L : Int) (j : Int) (l : Int) (n : Nat) (f : Nat → Int) (m : Nat) (g : Nat → Int) : List Bool := (match L38a.run L j l n f m g (IntKind.i64.wrap (L - 1)) (List.replicate (IntKind.i64.wrap (L + 1)).toNat false) with | .e0 h1d0 => h1d0 )
theorem r38 (L : Int) (j : Int) (l : Int) (n : Nat) (f : Nat → Int) (hn : n ≤ 9223372036854775807) (m : Nat) (g : Nat → Int) (hm : m ≤ 9223372036854775807) (hk : LOk L j l n f m g) (h : AHeap) : Ret Try.prog 38 ([AV.int IntKind.i64 L, AV.int IntKind.i64 j, AV.int IntKind.i64 l, ivs n f, ivs m g]) h (AV.sl 1 (r38.v0 L j l n f m g) fun (i_ : Nat) => AV.bool (List.getD (r38.v1 L j l n f m g) i_ false)) h := by
  try have := bd_len (by first | assumption | omega)
  try have := bd_sz (by first | assumption | omega) (by first | assumption | omega) (by first | assumption | omega)
  try have := IntWalk.i64_in (L + 1) (by omega)
  have o0 : (0 : Int) ≤ IntKind.i64.wrap (L + (1 : Int)) := by first | assumption | omega | (simp_all; done)
  have o1 : (1 : Int) * IntKind.i64.wrap (L + (1 : Int)) ≤ (281474976710656 : Int) := by first | assumption | omega | (simp_all; done)
  have o2 : IntKind.i64.wrap (L + (1 : Int)) ≤ (9223372036854775807 : Int) := by first | assumption | omega | (simp_all; done)
  have o3 : n ≤ (9223372036854775807 : Nat) := by first | assumption | omega | (simp_all; done)
  have o4 : m ≤ (9223372036854775807 : Nat) := by first | assumption | omega | (simp_all; done)
  have o5 : LOk L j l n f m g := by first | assumption | (simp_all; done)
  try have := IntWalk.i64_in (L - 1) (by omega)
  have o6 : IntKind.i64.wrap (L - (1 : Int)) ≤ IntKind.i64.wrap (L - (1 : Int)) := by first | assumption | omega | (simp_all; done)
  have o7 : (-1 : Int) ≤ IntKind.i64.wrap (L - (1 : Int)) ∨ IntKind.i64.wrap (L - (1 : Int)) = IntKind.i64.wrap (L - (1 : Int)) := by first | assumption | omega | (simp_all; done)
  cases h1 : L38a.run L j l n f m g (IntKind.i64.wrap (L - 1)) (List.replicate (IntKind.i64.wrap (L + 1)).toNat false) with
  | e0 h1d0 =>
    try have := bd_len (by first | assumption | omega)
    try have := bd_sz (by first | assumption | omega) (by first | assumption | omega) (by first | assumption | omega)
    try have := L38a.leqR0_0 _ _ _ _ _ _ _ (by assumption); (try simp only [List.length_replicate] at this)
    try have := IntWalk.i64_in (L + 1) (by omega)
    have o8 : (0 : Nat) + (IntKind.i64.wrap (L + (1 : Int))).toNat ≤ (Col.bools h1d0).len := by first | assumption | omega | (simp only [List.length_append, List.length_cons, List.length_nil, List.length_map]; omega) | rfl | (exact Nat.le_refl _) | (simp [Col.len]; done) | (simp only [Col.len, zero_bool, zero_int, List.length_replicate, List.length_set] at *; omega) | (simp_all; done)
    exact Ret.of_run1 mix [(AV.sl 1 (r38.v0 L j l n f m g) fun (i_ : Nat) => AV.bool (List.getD (r38.v1 L j l n f m g) i_ false))] Try.func38 rfl [.loop (others 65 [0, 1, 2, 3, 4, 11, 12]) (Exit.exit 0) (L38a.X L j l n f m g (L38a.O.e0 h1d0)) (L38a.XH L j l n f m g (L38a.O.e0 h1d0))] (by simp) (by simp) (kmp (by kernel_rfl) (And.intro (And.intro (rfl : IntKind.i64.wrap (L + (1 : Int)) = IntKind.i64.wrap (L + (1 : Int))) (And.intro o0 (And.intro o1 o2))) (And.intro (L38a.e0 (L) (j) (l) (n) (f) o3 (m) (g) o4 o5 (IntKind.i64.wrap (L - 1)) (List.replicate (IntKind.i64.wrap (L + 1)).toNat false) (And.intro o6 (And.intro o7 (rfl : (List.replicate (IntKind.i64.wrap (L + (1 : Int))).toNat false).length = (List.replicate (IntKind.i64.wrap (L + (1 : Int))).toNat false).length))) h1d0 h1) (And.intro (And.intro (rfl : (IntKind.i64.wrap (L + (1 : Int))).toNat = (IntKind.i64.wrap (L + (1 : Int))).toNat) (And.intro (show (1 : Nat) = (1 : Nat) by first | decide | exact Int.NonNeg.mk _) (And.intro o8 (show (AV.sl 1 (IntKind.i64.wrap (L + 1)).toNat fun (a : Nat) => AV.bool (h1d0.getD a false)) = ((AV.sl 1 (r38.v0 L j l n f m g) fun (i_ : Nat) => AV.bool (List.getD (r38.v1 L j l n f m g) i_ false))) by first | (simp only [r38.v0, r38.v1, h1, cond_true, cond_false]; done) | (try unfold r38.v0; try unfold r38.v1; try simp only [h1, cond_true, cond_false]; try rfl; done) | rfl)))) trivial)))) h

inductive L18ab.O where
  | e0 (a0 : List Bool)
noncomputable def L18ab.T (L : Int) (j : Int) (l : Int) (n : Nat) (f : Nat → Int) (m : Nat) (g : Nat → Int) (av12 : Nat) (al12 : List Int) (a13 : Int) (ar0 : List Bool) (b14 : Int) (br0 : List Bool) : List AV := mkT 65 [(0, AV.int IntKind.i64 L), (1, AV.int IntKind.i64 j), (2, AV.int IntKind.i64 l), (3, AV.sl 1 n fun (i : Nat) => AV.int IntKind.i64 (f i)), (4, AV.sl 1 m fun (i : Nat) => AV.int IntKind.i64 (g i)), (11, AV.ms 0 L.toNat 1 0 L.toNat), (12, AV.ms 1 (av12 + 1) 1 0 ((Col.ints IntKind.i64 al12).join AppMode.one 1 fun (a : Nat) => (Col.ofList [AV.int IntKind.i64 a13]).get a).len), (13, AV.int IntKind.i64 a13), (14, AV.int IntKind.i64 b14)]
noncomputable def L18ab.H (L : Int) (j : Int) (l : Int) (n : Nat) (f : Nat → Int) (m : Nat) (g : Nat → Int) (av12 : Nat) (al12 : List Int) (a13 : Int) (ar0 : List Bool) (b14 : Int) (br0 : List Bool) : AHeap := [AObj.row 1 L.toNat (Col.bools br0), AObj.row 1 (av12 + 1) (Col.ints IntKind.i64 (al12 ++ [a13]))]
def L18ab.inv (L : Int) (j : Int) (l : Int) (n : Nat) (f : Nat → Int) (m : Nat) (g : Nat → Int) (av12 : Nat) (al12 : List Int) (a13 : Int) (ar0 : List Bool) (b14 : Int) (br0 : List Bool) : Prop := 0 ≤ b14 ∧ (b14 ≤ (↑n : Int) ∨ b14 ≤ 0) ∧ br0.length = ar0.length
noncomputable def L18ab.mu (L : Int) (j : Int) (l : Int) (n : Nat) (f : Nat → Int) (m : Nat) (g : Nat → Int) (av12 : Nat) (al12 : List Int) (a13 : Int) (ar0 : List Bool) (b14 : Int) (br0 : List Bool) : Nat := ((↑n : Int) - b14).toNat
noncomputable def L18ab.E : L18ab.O → Exit
  | .e0 a0 => Exit.exit 2
noncomputable def L18ab.X (L : Int) (j : Int) (l : Int) (n : Nat) (f : Nat → Int) (m : Nat) (g : Nat → Int) (av12 : Nat) (al12 : List Int) (a13 : Int) (ar0 : List Bool) : L18ab.O → List AV
  | .e0 a0 => mkT 65 [(0, (AV.int IntKind.i64 L)), (1, (AV.int IntKind.i64 j)), (2, (AV.int IntKind.i64 l)), (3, (AV.sl 1 n fun (i : Nat) => AV.int IntKind.i64 (f i))), (4, (AV.sl 1 m fun (i : Nat) => AV.int IntKind.i64 (g i))), (11, (AV.ms 0 L.toNat 1 0 L.toNat)), (12, (AV.ms 1 (av12 + 1) 1 0 ((Col.ints IntKind.i64 al12).join AppMode.one 1 fun (a : Nat) => (Col.ofList [AV.int IntKind.i64 a13]).get a).len)), (13, (AV.int IntKind.i64 a13))]
noncomputable def L18ab.XH (L : Int) (j : Int) (l : Int) (n : Nat) (f : Nat → Int) (m : Nat) (g : Nat → Int) (av12 : Nat) (al12 : List Int) (a13 : Int) (ar0 : List Bool) : L18ab.O → AHeap
  | .e0 a0 => ((AObj.row 1 (L.toNat) (Col.bools a0)) :: ([AObj.row 1 (av12 + 1) (Col.ints IntKind.i64 (al12 ++ [a13]))]))
noncomputable def L18ab.N (L : Int) (j : Int) (l : Int) (n : Nat) (f : Nat → Int) (m : Nat) (g : Nat → Int) (a13 : Int) : Nat → Int → (List Bool) → L18ab.O
  | 0, _, br0 => .e0 br0
  | k_ + 1, b14, br0 => (bif decide (b14 < (↑n : Int)) then (bif decide (IntKind.i64.wrap (IntKind.i64.wrap (a13 + f b14.toNat) + j) < L) then (bif r36.v (IntKind.i64.wrap (a13 + f b14.toNat)) j l m g then (L18ab.N L j l n f m g a13 k_ (IntKind.i64.wrap (b14 + 1)) (br0.set (0 + (IntKind.i64.wrap (IntKind.i64.wrap (a13 + f b14.toNat) + j)).toNat) true)) else (L18ab.N L j l n f m g a13 k_ (IntKind.i64.wrap (b14 + 1)) (br0))) else (L18ab.N L j l n f m g a13 k_ (IntKind.i64.wrap (b14 + 1)) (br0))) else (.e0 (br0)))
noncomputable def L18ab.run (L : Int) (j : Int) (l : Int) (n : Nat) (f : Nat → Int) (m : Nat) (g : Nat → Int) (a13 : Int) (b14 : Int) (br0 : List Bool) : L18ab.O := L18ab.N L j l n f m g a13 ((((↑n : Int) - b14).toNat) + 1) b14 br0
def L18ab.Next (L : Int) (j : Int) (l : Int) (n : Nat) (f : Nat → Int) (m : Nat) (g : Nat → Int) (av12 : Nat) (al12 : List Int) (a13 : Int) (ar0 : List Bool) (k_ : Nat) (z_ : Int × (List Bool)) (T_ : List AV) (h_ : AHeap) : Prop := LNextP (fun (z_ : Int × (List Bool)) => L18ab.T L j l n f m g av12 al12 a13 ar0 z_.1 z_.2) (fun (z_ : Int × (List Bool)) => L18ab.H L j l n f m g av12 al12 a13 ar0 z_.1 z_.2) (fun (z_ : Int × (List Bool)) => L18ab.inv L j l n f m g av12 al12 a13 ar0 z_.1 z_.2) (fun (z_ : Int × (List Bool)) => L18ab.mu L j l n f m g av12 al12 a13 ar0 z_.1 z_.2) (fun (k_ : Nat) (z_ : Int × (List Bool)) => L18ab.N L j l n f m g a13 k_ z_.1 z_.2) k_ z_ T_ h_
def L18ab.End (L : Int) (j : Int) (l : Int) (n : Nat) (f : Nat → Int) (m : Nat) (g : Nat → Int) (av12 : Nat) (al12 : List Int) (a13 : Int) (ar0 : List Bool) (k_ : Nat) (z_ : Int × (List Bool)) (e_ : Exit) (T_ : List AV) (h_ : AHeap) : Prop := LEndP (fun (z_ : Int × (List Bool)) => L18ab.H L j l n f m g av12 al12 a13 ar0 z_.1 z_.2) (fun (k_ : Nat) (z_ : Int × (List Bool)) => L18ab.N L j l n f m g a13 k_ z_.1 z_.2) L18ab.E (L18ab.X L j l n f m g av12 al12 a13 ar0) (L18ab.XH L j l n f m g av12 al12 a13 ar0) k_ z_ e_ T_ h_
theorem L18ab.nx (L : Int) (j : Int) (l : Int) (n : Nat) (f : Nat → Int) (m : Nat) (g : Nat → Int) (av12 : Nat) (al12 : List Int) (a13 : Int) (ar0 : List Bool) {k_ : Nat} {z_ : Int × (List Bool)} {h_ : AHeap} (s_ : Int × (List Bool)) (h1 : L18ab.inv L j l n f m g av12 al12 a13 ar0 s_.1 s_.2) (h2 : L18ab.mu L j l n f m g av12 al12 a13 ar0 s_.1 s_.2 < L18ab.mu L j l n f m g av12 al12 a13 ar0 z_.1 z_.2) (h3 : L18ab.N L j l n f m g a13 k_ s_.1 s_.2 = L18ab.N L j l n f m g a13 (k_ + 1) z_.1 z_.2) (h4 : PopOk (L18ab.H L j l n f m g av12 al12 a13 ar0 z_.1 z_.2) h_ (L18ab.T L j l n f m g av12 al12 a13 ar0 s_.1 s_.2) (L18ab.H L j l n f m g av12 al12 a13 ar0 s_.1 s_.2)) : LNextP (fun (z_ : Int × (List Bool)) => L18ab.T L j l n f m g av12 al12 a13 ar0 z_.1 z_.2) (fun (z_ : Int × (List Bool)) => L18ab.H L j l n f m g av12 al12 a13 ar0 z_.1 z_.2) (fun (z_ : Int × (List Bool)) => L18ab.inv L j l n f m g av12 al12 a13 ar0 z_.1 z_.2) (fun (z_ : Int × (List Bool)) => L18ab.mu L j l n f m g av12 al12 a13 ar0 z_.1 z_.2) (fun (k_ : Nat) (z_ : Int × (List Bool)) => L18ab.N L j l n f m g a13 k_ z_.1 z_.2) k_ z_ (L18ab.T L j l n f m g av12 al12 a13 ar0 s_.1 s_.2) h_ := LNextP.mk (Tm := (fun (z_ : Int × (List Bool)) => L18ab.T L j l n f m g av12 al12 a13 ar0 z_.1 z_.2)) (Hp := (fun (z_ : Int × (List Bool)) => L18ab.H L j l n f m g av12 al12 a13 ar0 z_.1 z_.2)) (inv := (fun (z_ : Int × (List Bool)) => L18ab.inv L j l n f m g av12 al12 a13 ar0 z_.1 z_.2)) (mu := (fun (z_ : Int × (List Bool)) => L18ab.mu L j l n f m g av12 al12 a13 ar0 z_.1 z_.2)) (l := (fun (k_ : Nat) (z_ : Int × (List Bool)) => L18ab.N L j l n f m g a13 k_ z_.1 z_.2)) s_ h1 h2 h3 h4
theorem L18ab.en (L : Int) (j : Int) (l : Int) (n : Nat) (f : Nat → Int) (m : Nat) (g : Nat → Int) (av12 : Nat) (al12 : List Int) (a13 : Int) (ar0 : List Bool) {k_ : Nat} {z_ : Int × (List Bool)} {h_ : AHeap} (o_ : L18ab.O) (h3 : L18ab.N L j l n f m g a13 (k_ + 1) z_.1 z_.2 = o_) (h4 : PopOk (L18ab.H L j l n f m g av12 al12 a13 ar0 z_.1 z_.2) h_ (L18ab.X L j l n f m g av12 al12 a13 ar0 o_) (L18ab.XH L j l n f m g av12 al12 a13 ar0 o_)) : LEndP (fun (z_ : Int × (List Bool)) => L18ab.H L j l n f m g av12 al12 a13 ar0 z_.1 z_.2) (fun (k_ : Nat) (z_ : Int × (List Bool)) => L18ab.N L j l n f m g a13 k_ z_.1 z_.2) L18ab.E (L18ab.X L j l n f m g av12 al12 a13 ar0) (L18ab.XH L j l n f m g av12 al12 a13 ar0) k_ z_ (L18ab.E o_) (L18ab.X L j l n f m g av12 al12 a13 ar0 o_) h_ := LEndP.mk (Hp := (fun (z_ : Int × (List Bool)) => L18ab.H L j l n f m g av12 al12 a13 ar0 z_.1 z_.2)) (l := (fun (k_ : Nat) (z_ : Int × (List Bool)) => L18ab.N L j l n f m g a13 k_ z_.1 z_.2)) (oE := L18ab.E) (oT := L18ab.X L j l n f m g av12 al12 a13 ar0) (oH := L18ab.XH L j l n f m g av12 al12 a13 ar0) o_ h3 h4
noncomputable abbrev L18ab.h0 (L : Int) (j : Int) (l : Int) (n : Nat) (f : Nat → Int) (m : Nat) (g : Nat → Int) (av12 : Nat) (al12 : List Int) (a13 : Int) (ar0 : List Bool) (b14 : Int) (br0 : List Bool) : AHeap := ([AObj.row 1 L.toNat (Col.bools br0), AObj.row 1 (av12 + 1) (Col.ints IntKind.i64 (al12 ++ [a13]))])
theorem L18ab.spec (L : Int) (j : Int) (l : Int) (n : Nat) (f : Nat → Int) (hn : n ≤ 9223372036854775807) (m : Nat) (g : Nat → Int) (hm : m ≤ 9223372036854775807) (hk : LOk L j l n f m g) (av12 : Nat) (al12 : List Int) (a13 : Int) (ar0 : List Bool) (i18a_0 : 0 ≤ a13) (i18a_1 : a13 ≤ L ∨ a13 ≤ 0) (i18a_2 : (↑al12.length : Int) ≤ 1000000 * (a13 - 0)) (i18a_3 : ar0.length = ((List.replicate L.toNat false).set 0 true).length) (k1_1 : decide (a13 < L) = true) (p1_1 : a13 < L) (k1_2 : ar0.getD (0 + a13.toNat) false = true) (k_ : Nat) (z_ : Int × (List Bool)) (hi_ : L18ab.inv L j l n f m g av12 al12 a13 ar0 z_.1 z_.2) (hm_ : L18ab.mu L j l n f m g av12 al12 a13 ar0 z_.1 z_.2 < k_) : LoopTo Try.prog (loopN Try.f18 1) (L18ab.T L j l n f m g av12 al12 a13 ar0 z_.1 z_.2) (L18ab.H L j l n f m g av12 al12 a13 ar0 z_.1 z_.2) (L18ab.E (L18ab.N L j l n f m g a13 k_ z_.1 z_.2)) (L18ab.X L j l n f m g av12 al12 a13 ar0 (L18ab.N L j l n f m g a13 k_ z_.1 z_.2)) (L18ab.XH L j l n f m g av12 al12 a13 ar0 (L18ab.N L j l n f m g a13 k_ z_.1 z_.2)) := by
  refine LoopTo.fuelP mix (fun (z_ : Int × (List Bool)) => L18ab.T L j l n f m g av12 al12 a13 ar0 z_.1 z_.2) (fun (z_ : Int × (List Bool)) => L18ab.H L j l n f m g av12 al12 a13 ar0 z_.1 z_.2) (fun (z_ : Int × (List Bool)) => L18ab.inv L j l n f m g av12 al12 a13 ar0 z_.1 z_.2) (fun (z_ : Int × (List Bool)) => L18ab.mu L j l n f m g av12 al12 a13 ar0 z_.1 z_.2) (fun (k_ : Nat) (z_ : Int × (List Bool)) => L18ab.N L j l n f m g a13 k_ z_.1 z_.2) L18ab.E (L18ab.X L j l n f m g av12 al12 a13 ar0) (L18ab.XH L j l n f m g av12 al12 a13 ar0) (others 65 [0, 1, 2, 3, 4, 11, 12, 13, 14]) (others 65 [10]) (others 65 [0, 1, 2, 3, 4, 11, 12, 13]) ?_ k_ z_ hi_ hm_
  clear hm_ hi_ z_ k_
  intro k_ z_ hinv hmu
  obtain ⟨b14, br0⟩ := z_
  have hinv : 0 ≤ b14 ∧ (b14 ≤ (↑n : Int) ∨ b14 ≤ 0) ∧ br0.length = ar0.length := hinv
  have hmu : (((↑n : Int) - b14).toNat) < k_ + 1 := hmu
  cases h1 : decide (b14 < (↑n : Int)) with
  | true =>
    have h1p := of_decide_eq_true h1
    try have := bd_len (by first | assumption | omega)
    try have := bd_sz (by first | assumption | omega) (by first | assumption | omega) (by first | assumption | omega)
    have o0 : (0 : Int) ≤ b14 := by first | assumption | omega | (simp_all; done)
    have o1 : b14 < (↑n : Int) := by first | assumption | omega | (simp_all; done)
    cases h2 : decide (IntKind.i64.wrap (IntKind.i64.wrap (a13 + f b14.toNat) + j) < L) with
    | true =>
      have h2p := of_decide_eq_true h2
      try have := bd_len (by first | assumption | omega)
      try have := bd_sz (by first | assumption | omega) (by first | assumption | omega) (by first | assumption | omega)
      have o2 : m ≤ (9223372036854775807 : Nat) := by first | assumption | omega | (simp_all; done)
      cases h3 : r36.v (IntKind.i64.wrap (a13 + f b14.toNat)) j l m g with
      | true =>
        try have := bd_len (by first | assumption | omega)
        try have := bd_sz (by first | assumption | omega) (by first | assumption | omega) (by first | assumption | omega)
        try have := IntWalk.i64_in (a13 + f b14.toNat) (by omega)
        try have := IntWalk.i64_in (IntKind.i64.wrap (a13 + f b14.toNat) + j) (by omega)
        have o3 : (0 : Int) ≤ IntKind.i64.wrap (IntKind.i64.wrap (a13 + f b14.toNat) + j) := by first | assumption | omega | (apply wr_0 <;> first | assumption | omega) | (simp_all; done)
        have o4 : IntKind.i64.wrap (IntKind.i64.wrap (a13 + f b14.toNat) + j) < (↑L.toNat : Int) := by first | assumption | omega | (simp_all; done)
        have o5 : (0 : Nat) + (IntKind.i64.wrap (IntKind.i64.wrap (a13 + f b14.toNat) + j)).toNat < (Col.bools br0).len := by first | assumption | omega | (simp only [List.length_append, List.length_cons, List.length_nil, List.length_map]; omega) | rfl | (exact Nat.le_refl _) | (simp [Col.len]; done) | (simp only [Col.len, zero_bool, zero_int, List.length_replicate, List.length_set] at *; omega) | (simp_all; done)
        try have := IntWalk.i64_in (b14 + 1) (by omega)
        have o6 : (0 : Int) ≤ IntKind.i64.wrap (b14 + (1 : Int)) := by first | assumption | omega | (simp_all; done)
        have o7 : IntKind.i64.wrap (b14 + (1 : Int)) ≤ (↑n : Int) ∨ IntKind.i64.wrap (b14 + (1 : Int)) ≤ (0 : Int) := by first | assumption | omega | (simp_all; done)
        have o8 : (br0.set ((0 : Nat) + (IntKind.i64.wrap (IntKind.i64.wrap (a13 + f b14.toNat) + j)).toNat) true).length = ar0.length := by first | assumption | omega | (simp only [List.length_append, List.length_cons, List.length_nil, List.length_map]; omega) | (simp_all; done)
        have o9 : ((↑n : Int) - IntKind.i64.wrap (b14 + (1 : Int))).toNat < ((↑n : Int) - b14).toNat := by first | assumption | omega | (simp_all; done)
        exact ⟨[.b true, .b true, .b true, .b true, .b true, .b true, .ret (AV.bool (r36.v (IntKind.i64.wrap (a13 + f b14.toNat)) j l m g)) (L18ab.h0 L j l n f m g av12 al12 a13 ar0 b14 br0), .b true, .b true], kmp (by kernel_rfl) (And.intro h1 (And.intro (And.intro o0 o1) (And.intro h2 (And.intro h2 (And.intro h2 (And.intro h2 (And.intro h2 (And.intro (r36 (IntKind.i64.wrap (a13 + f b14.toNat)) (j) (l) (m) (g) o2 (L18ab.h0 L j l n f m g av12 al12 a13 ar0 b14 br0)) (And.intro h2 (And.intro h3 (And.intro (And.intro o3 o4) (And.intro (And.intro (rfl : L.toNat = L.toNat) o5) (L18ab.nx L j l n f m g av12 al12 a13 ar0 (k_ := k_) (z_ := (b14, br0)) ((IntKind.i64.wrap (b14 + 1), br0.set (0 + (IntKind.i64.wrap (IntKind.i64.wrap (a13 + f b14.toNat) + j)).toNat) true)) (And.intro o6 (And.intro o7 o8)) o9 (by first | (simp only [L18ab.N, h1, h2, h3, cond_true, cond_false]; done) | (try unfold L18ab.N; try simp only [h1, cond_true, cond_false]; try simp only [h2, cond_true, cond_false]; try simp only [h3, cond_true, cond_false]; try rfl; done)) PopOk.same)))))))))))))⟩
      | false =>
        try have := bd_len (by first | assumption | omega)
        try have := bd_sz (by first | assumption | omega) (by first | assumption | omega) (by first | assumption | omega)
        try have := IntWalk.i64_in (b14 + 1) (by omega)
        have o6 : (0 : Int) ≤ IntKind.i64.wrap (b14 + (1 : Int)) := by first | assumption | omega | (simp_all; done)
        have o7 : IntKind.i64.wrap (b14 + (1 : Int)) ≤ (↑n : Int) ∨ IntKind.i64.wrap (b14 + (1 : Int)) ≤ (0 : Int) := by first | assumption | omega | (simp_all; done)
        have o10 : br0.length = ar0.length := by first | assumption | omega | (simp only [List.length_append, List.length_cons, List.length_nil, List.length_map]; omega) | (simp_all; done)
        have o9 : ((↑n : Int) - IntKind.i64.wrap (b14 + (1 : Int))).toNat < ((↑n : Int) - b14).toNat := by first | assumption | omega | (simp_all; done)
        exact ⟨[.b true, .b true, .b true, .b true, .b true, .b true, .ret (AV.bool (r36.v (IntKind.i64.wrap (a13 + f b14.toNat)) j l m g)) (L18ab.h0 L j l n f m g av12 al12 a13 ar0 b14 br0), .b true, .b false], kmp (by kernel_rfl) (And.intro h1 (And.intro (And.intro o0 o1) (And.intro h2 (And.intro h2 (And.intro h2 (And.intro h2 (And.intro h2 (And.intro (r36 (IntKind.i64.wrap (a13 + f b14.toNat)) (j) (l) (m) (g) o2 (L18ab.h0 L j l n f m g av12 al12 a13 ar0 b14 br0)) (And.intro h2 (And.intro h3 (L18ab.nx L j l n f m g av12 al12 a13 ar0 (k_ := k_) (z_ := (b14, br0)) ((IntKind.i64.wrap (b14 + 1), br0)) (And.intro o6 (And.intro o7 o10)) o9 (by first | (simp only [L18ab.N, h1, h2, h3, cond_true, cond_false]; done) | (try unfold L18ab.N; try simp only [h1, cond_true, cond_false]; try simp only [h2, cond_true, cond_false]; try simp only [h3, cond_true, cond_false]; try rfl; done)) PopOk.same)))))))))))⟩
    | false =>
      have h2p := of_decide_eq_false h2
      try have := bd_len (by first | assumption | omega)
      try have := bd_sz (by first | assumption | omega) (by first | assumption | omega) (by first | assumption | omega)
      try have := IntWalk.i64_in (b14 + 1) (by omega)
      have o6 : (0 : Int) ≤ IntKind.i64.wrap (b14 + (1 : Int)) := by first | assumption | omega | (simp_all; done)
      have o7 : IntKind.i64.wrap (b14 + (1 : Int)) ≤ (↑n : Int) ∨ IntKind.i64.wrap (b14 + (1 : Int)) ≤ (0 : Int) := by first | assumption | omega | (simp_all; done)
      have o10 : br0.length = ar0.length := by first | assumption | omega | (simp only [List.length_append, List.length_cons, List.length_nil, List.length_map]; omega) | (simp_all; done)
      have o9 : ((↑n : Int) - IntKind.i64.wrap (b14 + (1 : Int))).toNat < ((↑n : Int) - b14).toNat := by first | assumption | omega | (simp_all; done)
      exact ⟨[.b true, .b false, .b false, .b false, .b false, .b false, .b false, .b false], kmp (by kernel_rfl) (And.intro h1 (And.intro (And.intro o0 o1) (And.intro h2 (And.intro h2 (And.intro h2 (And.intro h2 (And.intro h2 (And.intro h2 (And.intro (rfl : false = false) (L18ab.nx L j l n f m g av12 al12 a13 ar0 (k_ := k_) (z_ := (b14, br0)) ((IntKind.i64.wrap (b14 + 1), br0)) (And.intro o6 (And.intro o7 o10)) o9 (by first | (simp only [L18ab.N, h1, h2, cond_true, cond_false]; done) | (try unfold L18ab.N; try simp only [h1, cond_true, cond_false]; try simp only [h2, cond_true, cond_false]; try rfl; done)) PopOk.same))))))))))⟩
  | false =>
    have h1p := of_decide_eq_false h1
    exact ⟨[.b false], kmp (by kernel_rfl) (And.intro h1 (L18ab.en L j l n f m g av12 al12 a13 ar0 (k_ := k_) (z_ := (b14, br0)) (.e0 (br0) : L18ab.O) (by first | (simp only [L18ab.N, h1, cond_true, cond_false]; done) | (try unfold L18ab.N; try simp only [h1, cond_true, cond_false]; try rfl; done)) PopOk.same))⟩
theorem L18ab.e0 (L : Int) (j : Int) (l : Int) (n : Nat) (f : Nat → Int) (hn : n ≤ 9223372036854775807) (m : Nat) (g : Nat → Int) (hm : m ≤ 9223372036854775807) (hk : LOk L j l n f m g) (av12 : Nat) (al12 : List Int) (a13 : Int) (ar0 : List Bool) (i18a_0 : 0 ≤ a13) (i18a_1 : a13 ≤ L ∨ a13 ≤ 0) (i18a_2 : (↑al12.length : Int) ≤ 1000000 * (a13 - 0)) (i18a_3 : ar0.length = ((List.replicate L.toNat false).set 0 true).length) (k1_1 : decide (a13 < L) = true) (p1_1 : a13 < L) (k1_2 : ar0.getD (0 + a13.toNat) false = true) (b14 : Int) (br0 : List Bool) (hinv : L18ab.inv L j l n f m g av12 al12 a13 ar0 b14 br0) (a0 : List Bool) (hN : L18ab.run L j l n f m g a13 b14 br0 = (.e0 a0 : L18ab.O)) : LoopTo Try.prog (loopN Try.f18 1) (L18ab.T L j l n f m g av12 al12 a13 ar0 b14 br0) (L18ab.H L j l n f m g av12 al12 a13 ar0 b14 br0) (Exit.exit 2) (L18ab.X L j l n f m g av12 al12 a13 ar0 (.e0 a0 : L18ab.O)) (L18ab.XH L j l n f m g av12 al12 a13 ar0 (.e0 a0 : L18ab.O)) := by
  have h_ := L18ab.spec L j l n f hn m g hm hk av12 al12 a13 ar0 i18a_0 i18a_1 i18a_2 i18a_3 k1_1 p1_1 k1_2 ((((↑n : Int) - b14).toNat) + 1) (b14, br0) hinv (Nat.lt_succ_self _)
  unfold L18ab.run at hN
  simp only [hN] at h_
  exact h_
theorem L18ab.len0_0 (L : Int) (j : Int) (l : Int) (n : Nat) (f : Nat → Int) (m : Nat) (g : Nat → Int) (a13 : Int) : ∀ (m_ : Nat) (b14 : Int) (br0 : List Bool) (a0_ : List Bool), L18ab.N L j l n f m g a13 m_ b14 br0 = (.e0 a0_ : L18ab.O) → (a0_).length ≤ (br0).length + m_ := by
  intro m_
  induction m_ with
  | zero =>
    intro b14 br0 a0_ h_
    simp only [L18ab.N] at h_
    cases h_
    first | exact Nat.zero_le _ | omega
  | succ m_ ih_ =>
    intro b14 br0 a0_ h_
    cases h1 : decide (b14 < (↑n : Int)) with
    | true =>
      have h1p := of_decide_eq_true h1
      cases h2 : decide (IntKind.i64.wrap (IntKind.i64.wrap (a13 + f b14.toNat) + j) < L) with
      | true =>
        have h2p := of_decide_eq_true h2
        cases h3 : r36.v (IntKind.i64.wrap (a13 + f b14.toNat)) j l m g with
        | true =>
          (simp only [L18ab.N, h1, h2, h3, cond_true, cond_false] at h_; first | (have := ih_ _ _ _ h_; (try simp only [List.length_append, List.length_cons, List.length_nil, List.length_set] at this); omega) | (cases h_; done) | (cases h_; omega))
        | false =>
          (simp only [L18ab.N, h1, h2, h3, cond_true, cond_false] at h_; first | (have := ih_ _ _ _ h_; (try simp only [List.length_append, List.length_cons, List.length_nil, List.length_set] at this); omega) | (cases h_; done) | (cases h_; omega))
      | false =>
        have h2p := of_decide_eq_false h2
        (simp only [L18ab.N, h1, h2, cond_true, cond_false] at h_; first | (have := ih_ _ _ _ h_; (try simp only [List.length_append, List.length_cons, List.length_nil, List.length_set] at this); omega) | (cases h_; done) | (cases h_; omega))
    | false =>
      have h1p := of_decide_eq_false h1
      (simp only [L18ab.N, h1, cond_true, cond_false] at h_; first | (have := ih_ _ _ _ h_; (try simp only [List.length_append, List.length_cons, List.length_nil, List.length_set] at this); omega) | (cases h_; done) | (cases h_; omega))
theorem L18ab.lenR0_0 (L : Int) (j : Int) (l : Int) (n : Nat) (f : Nat → Int) (m : Nat) (g : Nat → Int) (a13 : Int) {b14 : Int} {br0 : List Bool} {a0_ : List Bool} (h_ : L18ab.run L j l n f m g a13 b14 br0 = (.e0 a0_ : L18ab.O)) : (a0_).length ≤ (br0).length + ((((↑n : Int) - b14).toNat) + 1) := L18ab.len0_0 L j l n f m g a13 _ b14 br0 a0_ h_
theorem L18ab.leq0_0 (L : Int) (j : Int) (l : Int) (n : Nat) (f : Nat → Int) (m : Nat) (g : Nat → Int) (a13 : Int) : ∀ (m_ : Nat) (b14 : Int) (br0 : List Bool) (a0_ : List Bool), L18ab.N L j l n f m g a13 m_ b14 br0 = (.e0 a0_ : L18ab.O) → (a0_).length = (br0).length := by
  intro m_
  induction m_ with
  | zero =>
    intro b14 br0 a0_ h_
    simp only [L18ab.N] at h_
    cases h_
    try rfl
  | succ m_ ih_ =>
    intro b14 br0 a0_ h_
    cases h1 : decide (b14 < (↑n : Int)) with
    | true =>
      have h1p := of_decide_eq_true h1
      cases h2 : decide (IntKind.i64.wrap (IntKind.i64.wrap (a13 + f b14.toNat) + j) < L) with
      | true =>
        have h2p := of_decide_eq_true h2
        cases h3 : r36.v (IntKind.i64.wrap (a13 + f b14.toNat)) j l m g with
        | true =>
          (simp only [L18ab.N, h1, h2, h3, cond_true, cond_false] at h_; first | (have q_ := ih_ _ _ _ h_; (try simp only [List.length_set] at *); omega) | (cases h_; done) | (cases h_; rfl))
        | false =>
          (simp only [L18ab.N, h1, h2, h3, cond_true, cond_false] at h_; first | (have q_ := ih_ _ _ _ h_; (try simp only [List.length_set] at *); omega) | (cases h_; done) | (cases h_; rfl))
      | false =>
        have h2p := of_decide_eq_false h2
        (simp only [L18ab.N, h1, h2, cond_true, cond_false] at h_; first | (have q_ := ih_ _ _ _ h_; (try simp only [List.length_set] at *); omega) | (cases h_; done) | (cases h_; rfl))
    | false =>
      have h1p := of_decide_eq_false h1
      (simp only [L18ab.N, h1, cond_true, cond_false] at h_; first | (have q_ := ih_ _ _ _ h_; (try simp only [List.length_set] at *); omega) | (cases h_; done) | (cases h_; rfl))
theorem L18ab.leqR0_0 (L : Int) (j : Int) (l : Int) (n : Nat) (f : Nat → Int) (m : Nat) (g : Nat → Int) (a13 : Int) {b14 : Int} {br0 : List Bool} {a0_ : List Bool} (h_ : L18ab.run L j l n f m g a13 b14 br0 = (.e0 a0_ : L18ab.O)) : (a0_).length = (br0).length := L18ab.leq0_0 L j l n f m g a13 _ b14 br0 a0_ h_

inductive L18a.O where
  | e0 (a0 : Nat) (a1 : List Int) (a2 : List Bool)
noncomputable def L18a.T (L : Int) (j : Int) (l : Int) (n : Nat) (f : Nat → Int) (m : Nat) (g : Nat → Int) (av12 : Nat) (al12 : List Int) (a13 : Int) (ar0 : List Bool) : List AV := mkT 65 [(0, AV.int IntKind.i64 L), (1, AV.int IntKind.i64 j), (2, AV.int IntKind.i64 l), (3, AV.sl 1 n fun (i : Nat) => AV.int IntKind.i64 (f i)), (4, AV.sl 1 m fun (i : Nat) => AV.int IntKind.i64 (g i)), (11, AV.ms 0 L.toNat 1 0 L.toNat), (12, AV.ms 1 av12 1 0 al12.length), (13, AV.int IntKind.i64 a13)]
noncomputable def L18a.H (L : Int) (j : Int) (l : Int) (n : Nat) (f : Nat → Int) (m : Nat) (g : Nat → Int) (av12 : Nat) (al12 : List Int) (a13 : Int) (ar0 : List Bool) : AHeap := [AObj.row 1 L.toNat (Col.bools ar0), AObj.row 1 av12 (Col.ints IntKind.i64 al12)]
def L18a.inv (L : Int) (j : Int) (l : Int) (n : Nat) (f : Nat → Int) (m : Nat) (g : Nat → Int) (av12 : Nat) (al12 : List Int) (a13 : Int) (ar0 : List Bool) : Prop := 0 ≤ a13 ∧ (a13 ≤ L ∨ a13 ≤ 0) ∧ (↑al12.length : Int) ≤ 1000000 * (a13 - 0) ∧ ar0.length = ((List.replicate L.toNat false).set 0 true).length
noncomputable def L18a.mu (L : Int) (j : Int) (l : Int) (n : Nat) (f : Nat → Int) (m : Nat) (g : Nat → Int) (av12 : Nat) (al12 : List Int) (a13 : Int) (ar0 : List Bool) : Nat := (L - a13).toNat
noncomputable def L18a.E : L18a.O → Exit
  | .e0 a0 a1 a2 => Exit.exit 0
noncomputable def L18a.X (L : Int) (j : Int) (l : Int) (n : Nat) (f : Nat → Int) (m : Nat) (g : Nat → Int) : L18a.O → List AV
  | .e0 a0 a1 a2 => mkT 65 [(12, (AV.ms 1 a0 1 0 (List.length a1)))]
noncomputable def L18a.XH (L : Int) (j : Int) (l : Int) (n : Nat) (f : Nat → Int) (m : Nat) (g : Nat → Int) : L18a.O → AHeap
  | .e0 a0 a1 a2 => ((AObj.row 1 (L.toNat) (Col.bools a2)) :: ((AObj.row 1 a0 (Col.ints IntKind.i64 a1)) :: ([])))
noncomputable def L18a.N (L : Int) (j : Int) (l : Int) (n : Nat) (f : Nat → Int) (m : Nat) (g : Nat → Int) : Nat → Nat → (List Int) → Int → (List Bool) → L18a.O
  | 0, av12, al12, _, ar0 => .e0 av12 al12 ar0
  | k_ + 1, av12, al12, a13, ar0 => (bif decide (a13 < L) then (bif ar0.getD (0 + a13.toNat) false then (match L18ab.run L j l n f m g a13 0 ar0 with | .e0 h3d0 => (L18a.N L j l n f m g k_ (av12 + 1) (al12 ++ [a13]) (IntKind.i64.wrap (a13 + 1)) (h3d0)) ) else (L18a.N L j l n f m g k_ (av12) (al12) (IntKind.i64.wrap (a13 + 1)) (ar0))) else (.e0 (av12) (al12) (ar0)))
noncomputable def L18a.run (L : Int) (j : Int) (l : Int) (n : Nat) (f : Nat → Int) (m : Nat) (g : Nat → Int) (av12 : Nat) (al12 : List Int) (a13 : Int) (ar0 : List Bool) : L18a.O := L18a.N L j l n f m g (((L - a13).toNat) + 1) av12 al12 a13 ar0
def L18a.Next (L : Int) (j : Int) (l : Int) (n : Nat) (f : Nat → Int) (m : Nat) (g : Nat → Int) (k_ : Nat) (z_ : Nat × (List Int) × Int × (List Bool)) (T_ : List AV) (h_ : AHeap) : Prop := LNextP (fun (z_ : Nat × (List Int) × Int × (List Bool)) => L18a.T L j l n f m g z_.1 z_.2.1 z_.2.2.1 z_.2.2.2) (fun (z_ : Nat × (List Int) × Int × (List Bool)) => L18a.H L j l n f m g z_.1 z_.2.1 z_.2.2.1 z_.2.2.2) (fun (z_ : Nat × (List Int) × Int × (List Bool)) => L18a.inv L j l n f m g z_.1 z_.2.1 z_.2.2.1 z_.2.2.2) (fun (z_ : Nat × (List Int) × Int × (List Bool)) => L18a.mu L j l n f m g z_.1 z_.2.1 z_.2.2.1 z_.2.2.2) (fun (k_ : Nat) (z_ : Nat × (List Int) × Int × (List Bool)) => L18a.N L j l n f m g k_ z_.1 z_.2.1 z_.2.2.1 z_.2.2.2) k_ z_ T_ h_
def L18a.End (L : Int) (j : Int) (l : Int) (n : Nat) (f : Nat → Int) (m : Nat) (g : Nat → Int) (k_ : Nat) (z_ : Nat × (List Int) × Int × (List Bool)) (e_ : Exit) (T_ : List AV) (h_ : AHeap) : Prop := LEndP (fun (z_ : Nat × (List Int) × Int × (List Bool)) => L18a.H L j l n f m g z_.1 z_.2.1 z_.2.2.1 z_.2.2.2) (fun (k_ : Nat) (z_ : Nat × (List Int) × Int × (List Bool)) => L18a.N L j l n f m g k_ z_.1 z_.2.1 z_.2.2.1 z_.2.2.2) L18a.E (L18a.X L j l n f m g) (L18a.XH L j l n f m g) k_ z_ e_ T_ h_
theorem L18a.nx (L : Int) (j : Int) (l : Int) (n : Nat) (f : Nat → Int) (m : Nat) (g : Nat → Int) {k_ : Nat} {z_ : Nat × (List Int) × Int × (List Bool)} {h_ : AHeap} (s_ : Nat × (List Int) × Int × (List Bool)) (h1 : L18a.inv L j l n f m g s_.1 s_.2.1 s_.2.2.1 s_.2.2.2) (h2 : L18a.mu L j l n f m g s_.1 s_.2.1 s_.2.2.1 s_.2.2.2 < L18a.mu L j l n f m g z_.1 z_.2.1 z_.2.2.1 z_.2.2.2) (h3 : L18a.N L j l n f m g k_ s_.1 s_.2.1 s_.2.2.1 s_.2.2.2 = L18a.N L j l n f m g (k_ + 1) z_.1 z_.2.1 z_.2.2.1 z_.2.2.2) (h4 : PopOk (L18a.H L j l n f m g z_.1 z_.2.1 z_.2.2.1 z_.2.2.2) h_ (L18a.T L j l n f m g s_.1 s_.2.1 s_.2.2.1 s_.2.2.2) (L18a.H L j l n f m g s_.1 s_.2.1 s_.2.2.1 s_.2.2.2)) : LNextP (fun (z_ : Nat × (List Int) × Int × (List Bool)) => L18a.T L j l n f m g z_.1 z_.2.1 z_.2.2.1 z_.2.2.2) (fun (z_ : Nat × (List Int) × Int × (List Bool)) => L18a.H L j l n f m g z_.1 z_.2.1 z_.2.2.1 z_.2.2.2) (fun (z_ : Nat × (List Int) × Int × (List Bool)) => L18a.inv L j l n f m g z_.1 z_.2.1 z_.2.2.1 z_.2.2.2) (fun (z_ : Nat × (List Int) × Int × (List Bool)) => L18a.mu L j l n f m g z_.1 z_.2.1 z_.2.2.1 z_.2.2.2) (fun (k_ : Nat) (z_ : Nat × (List Int) × Int × (List Bool)) => L18a.N L j l n f m g k_ z_.1 z_.2.1 z_.2.2.1 z_.2.2.2) k_ z_ (L18a.T L j l n f m g s_.1 s_.2.1 s_.2.2.1 s_.2.2.2) h_ := LNextP.mk (Tm := (fun (z_ : Nat × (List Int) × Int × (List Bool)) => L18a.T L j l n f m g z_.1 z_.2.1 z_.2.2.1 z_.2.2.2)) (Hp := (fun (z_ : Nat × (List Int) × Int × (List Bool)) => L18a.H L j l n f m g z_.1 z_.2.1 z_.2.2.1 z_.2.2.2)) (inv := (fun (z_ : Nat × (List Int) × Int × (List Bool)) => L18a.inv L j l n f m g z_.1 z_.2.1 z_.2.2.1 z_.2.2.2)) (mu := (fun (z_ : Nat × (List Int) × Int × (List Bool)) => L18a.mu L j l n f m g z_.1 z_.2.1 z_.2.2.1 z_.2.2.2)) (l := (fun (k_ : Nat) (z_ : Nat × (List Int) × Int × (List Bool)) => L18a.N L j l n f m g k_ z_.1 z_.2.1 z_.2.2.1 z_.2.2.2)) s_ h1 h2 h3 h4
theorem L18a.en (L : Int) (j : Int) (l : Int) (n : Nat) (f : Nat → Int) (m : Nat) (g : Nat → Int) {k_ : Nat} {z_ : Nat × (List Int) × Int × (List Bool)} {h_ : AHeap} (o_ : L18a.O) (h3 : L18a.N L j l n f m g (k_ + 1) z_.1 z_.2.1 z_.2.2.1 z_.2.2.2 = o_) (h4 : PopOk (L18a.H L j l n f m g z_.1 z_.2.1 z_.2.2.1 z_.2.2.2) h_ (L18a.X L j l n f m g o_) (L18a.XH L j l n f m g o_)) : LEndP (fun (z_ : Nat × (List Int) × Int × (List Bool)) => L18a.H L j l n f m g z_.1 z_.2.1 z_.2.2.1 z_.2.2.2) (fun (k_ : Nat) (z_ : Nat × (List Int) × Int × (List Bool)) => L18a.N L j l n f m g k_ z_.1 z_.2.1 z_.2.2.1 z_.2.2.2) L18a.E (L18a.X L j l n f m g) (L18a.XH L j l n f m g) k_ z_ (L18a.E o_) (L18a.X L j l n f m g o_) h_ := LEndP.mk (Hp := (fun (z_ : Nat × (List Int) × Int × (List Bool)) => L18a.H L j l n f m g z_.1 z_.2.1 z_.2.2.1 z_.2.2.2)) (l := (fun (k_ : Nat) (z_ : Nat × (List Int) × Int × (List Bool)) => L18a.N L j l n f m g k_ z_.1 z_.2.1 z_.2.2.1 z_.2.2.2)) (oE := L18a.E) (oT := L18a.X L j l n f m g) (oH := L18a.XH L j l n f m g) o_ h3 h4
theorem L18a.spec (L : Int) (j : Int) (l : Int) (n : Nat) (f : Nat → Int) (hn : n ≤ 9223372036854775807) (m : Nat) (g : Nat → Int) (hm : m ≤ 9223372036854775807) (hk : LOk L j l n f m g) (k_ : Nat) (z_ : Nat × (List Int) × Int × (List Bool)) (hi_ : L18a.inv L j l n f m g z_.1 z_.2.1 z_.2.2.1 z_.2.2.2) (hm_ : L18a.mu L j l n f m g z_.1 z_.2.1 z_.2.2.1 z_.2.2.2 < k_) : LoopTo Try.prog (loopN Try.f18 0) (L18a.T L j l n f m g z_.1 z_.2.1 z_.2.2.1 z_.2.2.2) (L18a.H L j l n f m g z_.1 z_.2.1 z_.2.2.1 z_.2.2.2) (L18a.E (L18a.N L j l n f m g k_ z_.1 z_.2.1 z_.2.2.1 z_.2.2.2)) (L18a.X L j l n f m g (L18a.N L j l n f m g k_ z_.1 z_.2.1 z_.2.2.1 z_.2.2.2)) (L18a.XH L j l n f m g (L18a.N L j l n f m g k_ z_.1 z_.2.1 z_.2.2.1 z_.2.2.2)) := by
  refine LoopTo.fuelP mix (fun (z_ : Nat × (List Int) × Int × (List Bool)) => L18a.T L j l n f m g z_.1 z_.2.1 z_.2.2.1 z_.2.2.2) (fun (z_ : Nat × (List Int) × Int × (List Bool)) => L18a.H L j l n f m g z_.1 z_.2.1 z_.2.2.1 z_.2.2.2) (fun (z_ : Nat × (List Int) × Int × (List Bool)) => L18a.inv L j l n f m g z_.1 z_.2.1 z_.2.2.1 z_.2.2.2) (fun (z_ : Nat × (List Int) × Int × (List Bool)) => L18a.mu L j l n f m g z_.1 z_.2.1 z_.2.2.1 z_.2.2.2) (fun (k_ : Nat) (z_ : Nat × (List Int) × Int × (List Bool)) => L18a.N L j l n f m g k_ z_.1 z_.2.1 z_.2.2.1 z_.2.2.2) L18a.E (L18a.X L j l n f m g) (L18a.XH L j l n f m g) (others 65 [0, 1, 2, 3, 4, 11, 12, 13]) (others 65 [10]) (others 65 [12]) ?_ k_ z_ hi_ hm_
  clear hm_ hi_ z_ k_
  intro k_ z_ hinv hmu
  obtain ⟨av12, al12, a13, ar0⟩ := z_
  have hinv : 0 ≤ a13 ∧ (a13 ≤ L ∨ a13 ≤ 0) ∧ (↑al12.length : Int) ≤ 1000000 * (a13 - 0) ∧ ar0.length = ((List.replicate L.toNat false).set 0 true).length := hinv
  have hmu : ((L - a13).toNat) < k_ + 1 := hmu
  cases h1 : decide (a13 < L) with
  | true =>
    have h1p := of_decide_eq_true h1
    try have := bd_len (by first | assumption | omega)
    try have := bd_sz (by first | assumption | omega) (by first | assumption | omega) (by first | assumption | omega)
    try have := L18ab.lenR0_0 _ _ _ _ _ _ _ _ (by assumption); (try simp only [List.length_nil] at this)
    try have := L18ab.leqR0_0 _ _ _ _ _ _ _ _ (by assumption); (try simp only [List.length_replicate] at this)
    have o0 : (0 : Int) ≤ a13 := by first | assumption | omega | (simp_all; done)
    have o1 : a13 < (↑L.toNat : Int) := by first | assumption | omega | (simp_all; done)
    have o2 : (0 : Nat) + a13.toNat < (Col.bools ar0).len := by first | assumption | omega | (simp only [List.length_append, List.length_cons, List.length_nil, List.length_map]; omega) | rfl | (exact Nat.le_refl _) | (simp [Col.len]; done) | (simp only [Col.len, zero_bool, zero_int, List.length_replicate, List.length_set] at *; omega) | (simp_all; done)
    cases h2 : ar0.getD (0 + a13.toNat) false with
    | true =>
      try have := bd_len (by first | assumption | omega)
      try have := bd_sz (by first | assumption | omega) (by first | assumption | omega) (by first | assumption | omega)
      try have := L18ab.lenR0_0 _ _ _ _ _ _ _ _ (by assumption); (try simp only [List.length_nil] at this)
      try have := L18ab.leqR0_0 _ _ _ _ _ _ _ _ (by assumption); (try simp only [List.length_replicate] at this)
      have o3 : (al12.length + (1 : Nat)) * (8 : Nat) ≤ (140737488355328 : Nat) := by first | assumption | omega | (simp only [List.length_append, List.length_cons, List.length_nil, List.length_map]; omega) | (simp_all; done)
      have o4 : al12.length = (Col.ints IntKind.i64 al12).len := by first | assumption | omega | (simp only [List.length_append, List.length_cons, List.length_nil, List.length_map]; omega) | rfl | (exact Nat.le_refl _) | (simp [Col.len]; done) | (simp only [Col.len, zero_bool, zero_int, List.length_replicate, List.length_set] at *; omega) | (simp_all; done)
      have o5 : n ≤ (9223372036854775807 : Nat) := by first | assumption | omega | (simp_all; done)
      have o6 : m ≤ (9223372036854775807 : Nat) := by first | assumption | omega | (simp_all; done)
      have o7 : LOk L j l n f m g := by first | assumption | (simp_all; done)
      have o8 : a13 ≤ L ∨ a13 ≤ (0 : Int) := by first | assumption | omega | (simp_all; done)
      have o9 : (↑al12.length : Int) ≤ (1000000 : Int) * (a13 - (0 : Int)) := by first | assumption | omega | (simp only [List.length_append, List.length_cons, List.length_nil, List.length_map]; omega) | (simp_all; done)
      have o10 : ar0.length = ((List.replicate L.toNat false).set (0 : Nat) true).length := by first | assumption | omega | (simp only [List.length_append, List.length_cons, List.length_nil, List.length_map]; omega) | (simp_all; done)
      have o11 : decide (a13 < L) = true := by first | assumption | omega | (simp_all; done)
      have o12 : a13 < L := by first | assumption | omega | (simp_all; done)
      have o13 : ar0.getD ((0 : Nat) + a13.toNat) false = true := by first | assumption | omega | (simp_all; done)
      have o14 : (0 : Int) ≤ (↑n : Int) ∨ (0 : Int) ≤ (0 : Int) := by first | assumption | omega | (simp_all; done)
      cases h3 : L18ab.run L j l n f m g a13 0 ar0 with
      | e0 h3d0 =>
        try have := bd_len (by first | assumption | omega)
        try have := bd_sz (by first | assumption | omega) (by first | assumption | omega) (by first | assumption | omega)
        try have := L18ab.lenR0_0 _ _ _ _ _ _ _ _ (by assumption); (try simp only [List.length_nil] at this)
        try have := L18ab.leqR0_0 _ _ _ _ _ _ _ _ (by assumption); (try simp only [List.length_replicate] at this)
        try have := IntWalk.i64_in (a13 + 1) (by omega)
        have o15 : (0 : Int) ≤ IntKind.i64.wrap (a13 + (1 : Int)) := by first | assumption | omega | (simp_all; done)
        have o16 : IntKind.i64.wrap (a13 + (1 : Int)) ≤ L ∨ IntKind.i64.wrap (a13 + (1 : Int)) ≤ (0 : Int) := by first | assumption | omega | (simp_all; done)
        have o17 : (↑(al12 ++ [a13]).length : Int) ≤ (1000000 : Int) * (IntKind.i64.wrap (a13 + (1 : Int)) - (0 : Int)) := by first | assumption | omega | (simp only [List.length_append, List.length_cons, List.length_nil, List.length_map]; omega) | (simp_all; done)
        have o18 : h3d0.length = ((List.replicate L.toNat false).set (0 : Nat) true).length := by first | assumption | omega | (simp only [List.length_append, List.length_cons, List.length_nil, List.length_map]; omega) | (simp_all; done)
        have o19 : (L - IntKind.i64.wrap (a13 + (1 : Int))).toNat < (L - a13).toNat := by first | assumption | omega | (simp_all; done)
        exact ⟨[.b true, .b false, .app .one false, .loop (others 65 [0, 1, 2, 3, 4, 11, 12, 13, 14]) (Exit.exit 2) (L18ab.X L j l n f m g av12 al12 a13 ar0 (L18ab.O.e0 h3d0)) (L18ab.XH L j l n f m g av12 al12 a13 ar0 (L18ab.O.e0 h3d0))], kmp (by kernel_rfl) (And.intro h1 (And.intro (And.intro o0 o1) (And.intro (And.intro (rfl : L.toNat = L.toNat) (And.intro (show (1 : Nat) = (1 : Nat) by first | decide | exact Int.NonNeg.mk _) o2)) (And.intro (show (bnot (ar0.getD (0 + a13.toNat) false)) = false by rw [h2]; try rfl) (And.intro (And.intro (show (1 : Nat) = (1 : Nat) by first | decide | exact Int.NonNeg.mk _) (And.intro (show AppMode.one.needs 1 fun (a : Nat) => (Col.ofList [AV.int IntKind.i64 a13]).get a by first | exact ⟨rfl, rfl⟩ | simp [AppMode.needs]) (And.intro o3 (And.intro (rfl : av12 = av12) (And.intro (show (0 : Nat) = (0 : Nat) by first | decide | exact Int.NonNeg.mk _) o4))))) (And.intro (L18ab.e0 (L) (j) (l) (n) (f) o5 (m) (g) o6 o7 (av12) (al12) (a13) (ar0) o0 o8 o9 o10 o11 o12 o13 (0) (ar0) (And.intro (show (0 : Int) ≤ (0 : Int) by first | decide | exact Int.NonNeg.mk _) (And.intro o14 (rfl : ar0.length = ar0.length))) h3d0 h3) (L18a.nx L j l n f m g (k_ := k_) (z_ := (av12, al12, a13, ar0)) ((av12 + 1, al12 ++ [a13], IntKind.i64.wrap (a13 + 1), h3d0)) (And.intro o15 (And.intro o16 (And.intro o17 o18))) o19 (by first | (simp only [L18a.N, h1, h2, h3, cond_true, cond_false]; done) | (try unfold L18a.N; try simp only [h1, cond_true, cond_false]; try simp only [h2, cond_true, cond_false]; try simp only [h3, cond_true, cond_false]; try rfl; done)) PopOk.same)))))))⟩
    | false =>
      try have := bd_len (by first | assumption | omega)
      try have := bd_sz (by first | assumption | omega) (by first | assumption | omega) (by first | assumption | omega)
      try have := L18ab.lenR0_0 _ _ _ _ _ _ _ _ (by assumption); (try simp only [List.length_nil] at this)
      try have := L18ab.leqR0_0 _ _ _ _ _ _ _ _ (by assumption); (try simp only [List.length_replicate] at this)
      try have := IntWalk.i64_in (a13 + 1) (by omega)
      have o15 : (0 : Int) ≤ IntKind.i64.wrap (a13 + (1 : Int)) := by first | assumption | omega | (simp_all; done)
      have o16 : IntKind.i64.wrap (a13 + (1 : Int)) ≤ L ∨ IntKind.i64.wrap (a13 + (1 : Int)) ≤ (0 : Int) := by first | assumption | omega | (simp_all; done)
      have o20 : (↑al12.length : Int) ≤ (1000000 : Int) * (IntKind.i64.wrap (a13 + (1 : Int)) - (0 : Int)) := by first | assumption | omega | (simp only [List.length_append, List.length_cons, List.length_nil, List.length_map]; omega) | (simp_all; done)
      have o10 : ar0.length = ((List.replicate L.toNat false).set (0 : Nat) true).length := by first | assumption | omega | (simp only [List.length_append, List.length_cons, List.length_nil, List.length_map]; omega) | (simp_all; done)
      have o19 : (L - IntKind.i64.wrap (a13 + (1 : Int))).toNat < (L - a13).toNat := by first | assumption | omega | (simp_all; done)
      exact ⟨[.b true, .b true], kmp (by kernel_rfl) (And.intro h1 (And.intro (And.intro o0 o1) (And.intro (And.intro (rfl : L.toNat = L.toNat) (And.intro (show (1 : Nat) = (1 : Nat) by first | decide | exact Int.NonNeg.mk _) o2)) (And.intro (show (bnot (ar0.getD (0 + a13.toNat) false)) = true by rw [h2]; try rfl) (L18a.nx L j l n f m g (k_ := k_) (z_ := (av12, al12, a13, ar0)) ((av12, al12, IntKind.i64.wrap (a13 + 1), ar0)) (And.intro o15 (And.intro o16 (And.intro o20 o10))) o19 (by first | (simp only [L18a.N, h1, h2, cond_true, cond_false]; done) | (try unfold L18a.N; try simp only [h1, cond_true, cond_false]; try simp only [h2, cond_true, cond_false]; try rfl; done)) PopOk.same)))))⟩
  | false =>
    have h1p := of_decide_eq_false h1
    exact ⟨[.b false], kmp (by kernel_rfl) (And.intro h1 (L18a.en L j l n f m g (k_ := k_) (z_ := (av12, al12, a13, ar0)) (.e0 (av12) (al12) (ar0) : L18a.O) (by first | (simp only [L18a.N, h1, cond_true, cond_false]; done) | (try unfold L18a.N; try simp only [h1, cond_true, cond_false]; try rfl; done)) PopOk.same))⟩
theorem L18a.e0 (L : Int) (j : Int) (l : Int) (n : Nat) (f : Nat → Int) (hn : n ≤ 9223372036854775807) (m : Nat) (g : Nat → Int) (hm : m ≤ 9223372036854775807) (hk : LOk L j l n f m g) (av12 : Nat) (al12 : List Int) (a13 : Int) (ar0 : List Bool) (hinv : L18a.inv L j l n f m g av12 al12 a13 ar0) (a0 : Nat) (a1 : List Int) (a2 : List Bool) (hN : L18a.run L j l n f m g av12 al12 a13 ar0 = (.e0 a0 a1 a2 : L18a.O)) : LoopTo Try.prog (loopN Try.f18 0) (L18a.T L j l n f m g av12 al12 a13 ar0) (L18a.H L j l n f m g av12 al12 a13 ar0) (Exit.exit 0) (L18a.X L j l n f m g (.e0 a0 a1 a2 : L18a.O)) (L18a.XH L j l n f m g (.e0 a0 a1 a2 : L18a.O)) := by
  have h_ := L18a.spec L j l n f hn m g hm hk (((L - a13).toNat) + 1) (av12, al12, a13, ar0) hinv (Nat.lt_succ_self _)
  unfold L18a.run at hN
  simp only [hN] at h_
  exact h_
theorem L18a.leq0_2 (L : Int) (j : Int) (l : Int) (n : Nat) (f : Nat → Int) (m : Nat) (g : Nat → Int) : ∀ (m_ : Nat) (av12 : Nat) (al12 : List Int) (a13 : Int) (ar0 : List Bool) (a0_ : Nat) (a1_ : List Int) (a2_ : List Bool), L18a.N L j l n f m g m_ av12 al12 a13 ar0 = (.e0 a0_ a1_ a2_ : L18a.O) → (a2_).length = (ar0).length := by
  intro m_
  induction m_ with
  | zero =>
    intro av12 al12 a13 ar0 a0_ a1_ a2_ h_
    simp only [L18a.N] at h_
    cases h_
    try rfl
  | succ m_ ih_ =>
    intro av12 al12 a13 ar0 a0_ a1_ a2_ h_
    cases h1 : decide (a13 < L) with
    | true =>
      have h1p := of_decide_eq_true h1
      cases h2 : ar0.getD (0 + a13.toNat) false with
      | true =>
        cases h3 : L18ab.run L j l n f m g a13 0 ar0 with
        | e0 h3d0 =>
          (simp only [L18a.N, h1, h2, h3, cond_true, cond_false] at h_; first | (have q_ := ih_ _ _ _ _ _ _ _ h_; (try have := L18ab.lenR0_0 _ _ _ _ _ _ _ _ (by assumption); (try simp only [List.length_nil] at this)); (try have := L18ab.leqR0_0 _ _ _ _ _ _ _ _ (by assumption); (try simp only [List.length_replicate] at this)); (try simp only [List.length_set] at *); omega) | (cases h_; done) | (cases h_; rfl))
      | false =>
        (simp only [L18a.N, h1, h2, cond_true, cond_false] at h_; first | (have q_ := ih_ _ _ _ _ _ _ _ h_; (try have := L18ab.lenR0_0 _ _ _ _ _ _ _ _ (by assumption); (try simp only [List.length_nil] at this)); (try have := L18ab.leqR0_0 _ _ _ _ _ _ _ _ (by assumption); (try simp only [List.length_replicate] at this)); (try simp only [List.length_set] at *); omega) | (cases h_; done) | (cases h_; rfl))
    | false =>
      have h1p := of_decide_eq_false h1
      (simp only [L18a.N, h1, cond_true, cond_false] at h_; first | (have q_ := ih_ _ _ _ _ _ _ _ h_; (try have := L18ab.lenR0_0 _ _ _ _ _ _ _ _ (by assumption); (try simp only [List.length_nil] at this)); (try have := L18ab.leqR0_0 _ _ _ _ _ _ _ _ (by assumption); (try simp only [List.length_replicate] at this)); (try simp only [List.length_set] at *); omega) | (cases h_; done) | (cases h_; rfl))
theorem L18a.leqR0_2 (L : Int) (j : Int) (l : Int) (n : Nat) (f : Nat → Int) (m : Nat) (g : Nat → Int) {av12 : Nat} {al12 : List Int} {a13 : Int} {ar0 : List Bool} {a0_ : Nat} {a1_ : List Int} {a2_ : List Bool} (h_ : L18a.run L j l n f m g av12 al12 a13 ar0 = (.e0 a0_ a1_ a2_ : L18a.O)) : (a2_).length = (ar0).length := L18a.leq0_2 L j l n f m g _ av12 al12 a13 ar0 a0_ a1_ a2_ h_

noncomputable def r18.v (L : Int) (j : Int) (l : Int) (n : Nat) (f : Nat → Int) (m : Nat) (g : Nat → Int) : List Int := (match L18a.run L j l n f m g 0 [] 0 ((List.replicate L.toNat false).set 0 true) with | .e0 h1d0 h1d1 h1d2 => h1d1 )
theorem r18 (L : Int) (j : Int) (l : Int) (n : Nat) (f : Nat → Int) (hn : n ≤ 9223372036854775807) (m : Nat) (g : Nat → Int) (hm : m ≤ 9223372036854775807) (hk : LOk L j l n f m g) (h : AHeap) : Ret Try.prog 18 ([AV.int IntKind.i64 L, AV.int IntKind.i64 j, AV.int IntKind.i64 l, ivs n f, ivs m g]) h (avInts IntKind.i64 (r18.v L j l n f m g)) h := by
  try have := bd_len (by first | assumption | omega)
  try have := bd_sz (by first | assumption | omega) (by first | assumption | omega) (by first | assumption | omega)
  try have := L18a.leqR0_2 _ _ _ _ _ _ _ (by assumption); (try simp only [List.length_replicate] at this)
  have o0 : (0 : Int) ≤ L := by first | assumption | omega | (simp_all; done)
  have o1 : (1 : Int) * L ≤ (281474976710656 : Int) := by first | assumption | omega | (simp_all; done)
  have o2 : L ≤ (9223372036854775807 : Int) := by first | assumption | omega | (simp_all; done)
  have o3 : (0 : Int) < (↑L.toNat : Int) := by first | assumption | omega | (simp_all; done)
  have o4 : (0 : Nat) < (Col.zero (ofV (Value.bool false)) L.toNat).len := by first | assumption | omega | (simp only [List.length_append, List.length_cons, List.length_nil, List.length_map]; omega) | rfl | (exact Nat.le_refl _) | (simp [Col.len]; done) | (simp only [Col.len, zero_bool, zero_int, List.length_replicate, List.length_set] at *; omega) | (simp_all; done)
  have o5 : n ≤ (9223372036854775807 : Nat) := by first | assumption | omega | (simp_all; done)
  have o6 : m ≤ (9223372036854775807 : Nat) := by first | assumption | omega | (simp_all; done)
  have o7 : LOk L j l n f m g := by first | assumption | (simp_all; done)
  have o8 : (0 : Int) ≤ L ∨ (0 : Int) ≤ (0 : Int) := by first | assumption | omega | (simp_all; done)
  cases h1 : L18a.run L j l n f m g 0 [] 0 ((List.replicate L.toNat false).set 0 true) with
  | e0 h1d0 h1d1 h1d2 =>
    try have := bd_len (by first | assumption | omega)
    try have := bd_sz (by first | assumption | omega) (by first | assumption | omega) (by first | assumption | omega)
    try have := L18a.leqR0_2 _ _ _ _ _ _ _ (by assumption); (try simp only [List.length_replicate] at this)
    have o9 : (0 : Nat) + h1d1.length ≤ (Col.ints IntKind.i64 h1d1).len := by first | assumption | omega | (simp only [List.length_append, List.length_cons, List.length_nil, List.length_map]; omega) | rfl | (exact Nat.le_refl _) | (simp [Col.len]; done) | (simp only [Col.len, zero_bool, zero_int, List.length_replicate, List.length_set] at *; omega) | (simp_all; done)
    exact Ret.of_run1 mix [(avInts IntKind.i64 (r18.v L j l n f m g))] Try.func18 rfl [.virt [] [(none, 12, 1, Col.ints IntKind.i64 [])], .loop (others 65 [0, 1, 2, 3, 4, 11, 12, 13]) (Exit.exit 0) (L18a.X L j l n f m g (L18a.O.e0 h1d0 h1d1 h1d2)) (L18a.XH L j l n f m g (L18a.O.e0 h1d0 h1d1 h1d2))] (by simp) (by simp) (kmp (by kernel_rfl) (And.intro (And.intro (rfl : L = L) (And.intro o0 (And.intro o1 o2))) (And.intro (And.intro (show (0 : Int) ≤ (0 : Int) by first | decide | exact Int.NonNeg.mk _) o3) (And.intro (And.intro (rfl : L.toNat = L.toNat) o4) (And.intro (And.intro (rfl : AV.snil = AV.snil) (And.intro (rfl : (0 : Nat) = 0) trivial)) (And.intro (L18a.e0 (L) (j) (l) (n) (f) o5 (m) (g) o6 o7 (0) ([]) (0) ((List.replicate L.toNat false).set 0 true) (And.intro (show (0 : Int) ≤ (0 : Int) by first | decide | exact Int.NonNeg.mk _) (And.intro o8 (And.intro (show (0 : Int) ≤ (0 : Int) by first | decide | exact Int.NonNeg.mk _) (rfl : ((List.replicate L.toNat false).set (0 : Nat) true).length = ((List.replicate L.toNat false).set (0 : Nat) true).length)))) h1d0 h1d1 h1d2 h1) (And.intro (And.intro (rfl : h1d0 = h1d0) (And.intro (show (1 : Nat) = (1 : Nat) by first | decide | exact Int.NonNeg.mk _) (And.intro o9 (show ((avInts IntKind.i64 h1d1)) = ((avInts IntKind.i64 (r18.v L j l n f m g))) by first | (simp only [r18.v, h1, cond_true, cond_false]; done) | (try unfold r18.v; try simp only [h1, cond_true, cond_false]; try rfl; done) | rfl)))) trivial))))))) h

end Go.Proofs.Ytjdbmmilcihpoaa

/- the wall seat's contracts: Reach, and the step of Layout. -/
open Go
namespace Go.Proofs.Ytjdbmmilcihpoaa
set_option linter.unusedSimpArgs false
set_option linter.unusedVariables false
set_option maxHeartbeats 0
set_option maxRecDepth 100000
noncomputable def r33.v (L : Int) (j : Int) (l : Int) (m : Nat) (g : Nat → Int) (xs : List Int) (a : Int) (s : Int) : Bool := (bif IntKind.i64.wrap (a + s) == L then true else (bif decide (IntKind.i64.wrap (IntKind.i64.wrap (a + s) + j) < L) then (bif decide (xs.getD (0 + (IntKind.i64.wrap (IntKind.i64.wrap (a + s) + j)).toNat) 0 > 0) then r34.v (IntKind.i64.wrap (a + s)) j l m g else false) else false))
noncomputable abbrev r33.h0 (L : Int) (j : Int) (l : Int) (m : Nat) (g : Nat → Int) (xs : List Int) (V : Nat) (a : Int) (s : Int) : AHeap := ([AObj.var (AV.int IntKind.i64 L), AObj.var (AV.int IntKind.i64 j), AObj.var (AV.int IntKind.i64 l), AObj.var (ivs m g), AObj.row 1 V (Col.ints IntKind.i64 xs), AObj.var (AV.ms 4 V 1 0 V)])
noncomputable abbrev r33.h1 (L : Int) (j : Int) (l : Int) (m : Nat) (g : Nat → Int) (xs : List Int) (V : Nat) (a : Int) (s : Int) : AHeap := ([AObj.var (AV.int IntKind.i64 L), AObj.var (AV.int IntKind.i64 j), AObj.var (AV.int IntKind.i64 l), AObj.var (ivs m g), AObj.row 1 V (Col.ints IntKind.i64 xs), AObj.var (AV.ms 4 V 1 0 V)] : AHeap)
theorem r33 (L : Int) (j : Int) (l : Int) (hL : L ≤ 20000) (hj0 : 0 ≤ j) (hj : j ≤ 1000) (m : Nat) (g : Nat → Int) (hm : m ≤ 9223372036854775807) (xs : List Int) (V : Nat) (hV : xs.length = V) (hV2 : V = (L + 1).toNat) (a : Int) (s : Int) (h0 : 0 ≤ a) (h1 : a ≤ 20000) (h2 : 1 ≤ s) (h3 : s ≤ 20000) : Ret Try.prog 33 ([AV.int IntKind.i64 a, AV.int IntKind.i64 s, AV.ptr 0 1 1 0 0, AV.ptr 1 1 1 0 0, AV.ptr 5 1 1 0 0, AV.ptr 2 1 1 0 0, AV.ptr 3 1 1 0 0]) (r33.h0 L j l m g xs V a s) (AV.bool (r33.v L j l m g xs a s)) (r33.h0 L j l m g xs V a s) := by
  cases h1 : IntKind.i64.wrap (a + s) == L with
  | true =>
    have h1p := eq_of_beq h1
    exact Ret.of_runH mix [(AV.bool (r33.v L j l m g xs a s))] (r33.h0 L j l m g xs V a s) Try.func33 rfl [.b true, .b true, .b true, .b true, .b true, .b true, .b true, .b true, .b true, .b true] (by simp) (kmp (by kernel_rfl) (And.intro h1 (And.intro h1 (And.intro h1 (And.intro h1 (And.intro h1 (And.intro h1 (And.intro h1 (And.intro h1 (And.intro h1 (And.intro h1 (And.intro (And.intro (show (AV.bool true) = ((AV.bool (r33.v L j l m g xs a s))) by first | (simp only [r33.v, h1, cond_true, cond_false]; done) | (try unfold r33.v; try simp only [h1, cond_true, cond_false]; try rfl; done) | rfl) trivial) (rfl : (r33.h1 L j l m g xs V a s) = [AObj.var (AV.int IntKind.i64 L), AObj.var (AV.int IntKind.i64 j), AObj.var (AV.int IntKind.i64 l), AObj.var (ivs m g), AObj.row 1 V (Col.ints IntKind.i64 xs), AObj.var (AV.ms 4 V 1 0 V)])))))))))))))
  | false =>
    have h1p := ne_of_beq_false h1
    cases h2 : decide (IntKind.i64.wrap (IntKind.i64.wrap (a + s) + j) < L) with
    | true =>
      have h2p := of_decide_eq_true h2
      try have := IntWalk.i64_in (a + s) (by omega)
      try have := IntWalk.i64_in (IntKind.i64.wrap (a + s) + j) (by omega)
      have o0 : (0 : Int) ≤ IntKind.i64.wrap (IntKind.i64.wrap (a + s) + j) := by first | assumption | omega | (apply wr_0 <;> first | assumption | omega) | (simp_all; done)
      have o1 : IntKind.i64.wrap (IntKind.i64.wrap (a + s) + j) < (↑V : Int) := by first | assumption | omega | (simp_all; done)
      have o2 : (0 : Nat) + (IntKind.i64.wrap (IntKind.i64.wrap (a + s) + j)).toNat < (Col.ints IntKind.i64 xs).len := by first | assumption | omega | (simp only [List.length_append, List.length_cons, List.length_nil, List.length_map]; omega) | rfl | (exact Nat.le_refl _) | (simp [Col.len]; done) | (simp only [Col.len, zero_bool, zero_int, List.length_replicate, List.length_set] at *; omega) | (simp_all; done)
      cases h3 : decide (xs.getD (0 + (IntKind.i64.wrap (IntKind.i64.wrap (a + s) + j)).toNat) 0 > 0) with
      | true =>
        have h3p := of_decide_eq_true h3
        have o3 : m ≤ (9223372036854775807 : Nat) := by first | assumption | omega | (simp_all; done)
        exact Ret.of_runH mix [(AV.bool (r33.v L j l m g xs a s))] (r33.h0 L j l m g xs V a s) Try.func33 rfl [.b false, .b false, .b false, .b false, .b false, .b false, .b true, .b true, .b true, .b true, .b true, .b true, .b true, .b false, .b true, .b false, .b true, .b true, .b true, .b true, .b true, .ret (AV.bool (r34.v (IntKind.i64.wrap (a + s)) j l m g)) ([AObj.var (AV.int IntKind.i64 L), AObj.var (AV.int IntKind.i64 j), AObj.var (AV.int IntKind.i64 l), AObj.var (AV.sl 1 m fun (i : Nat) => AV.int IntKind.i64 (g i)), AObj.row 1 V (Col.ints IntKind.i64 xs), AObj.var (AV.ms 4 V 1 0 V)]), .b false, .b true, .b false] (by simp) (kmp (by kernel_rfl) (And.intro h1 (And.intro h1 (And.intro h1 (And.intro h1 (And.intro h1 (And.intro h1 (And.intro h2 (And.intro h2 (And.intro h2 (And.intro h2 (And.intro h2 (And.intro (And.intro o0 o1) (And.intro h2 (And.intro (And.intro (rfl : V = V) (And.intro (show (1 : Nat) = (1 : Nat) by first | decide | exact Int.NonNeg.mk _) o2)) (And.intro h2 (And.intro h1 (And.intro h2 (And.intro h1 (And.intro h3 (And.intro h3 (And.intro h3 (And.intro h3 (And.intro h3 (And.intro (r34 (IntKind.i64.wrap (a + s)) (j) (l) (m) (g) o3 ([AObj.var (AV.int IntKind.i64 L), AObj.var (AV.int IntKind.i64 j), AObj.var (AV.int IntKind.i64 l), AObj.var (AV.sl 1 m fun (i : Nat) => AV.int IntKind.i64 (g i)), AObj.row 1 V (Col.ints IntKind.i64 xs), AObj.var (AV.ms 4 V 1 0 V)])) (And.intro h1 (And.intro h3 (And.intro h1 (And.intro (And.intro (show (AV.bool (r34.v (IntKind.i64.wrap (a + s)) j l m g)) = ((AV.bool (r33.v L j l m g xs a s))) by first | (simp only [r33.v, h1, h2, h3, cond_true, cond_false]; done) | (try unfold r33.v; try simp only [h1, cond_true, cond_false]; try simp only [h2, cond_true, cond_false]; try simp only [h3, cond_true, cond_false]; try rfl; done) | rfl) trivial) (rfl : (r33.h1 L j l m g xs V a s) = [AObj.var (AV.int IntKind.i64 L), AObj.var (AV.int IntKind.i64 j), AObj.var (AV.int IntKind.i64 l), AObj.var (ivs m g), AObj.row 1 V (Col.ints IntKind.i64 xs), AObj.var (AV.ms 4 V 1 0 V)]))))))))))))))))))))))))))))))
      | false =>
        have h3p := of_decide_eq_false h3
        exact Ret.of_runH mix [(AV.bool (r33.v L j l m g xs a s))] (r33.h0 L j l m g xs V a s) Try.func33 rfl [.b false, .b false, .b false, .b false, .b false, .b false, .b true, .b true, .b true, .b true, .b true, .b true, .b true, .b false, .b true, .b false, .b false, .b false, .b false, .b false, .b false, .b false, .b false, .b false] (by simp) (kmp (by kernel_rfl) (And.intro h1 (And.intro h1 (And.intro h1 (And.intro h1 (And.intro h1 (And.intro h1 (And.intro h2 (And.intro h2 (And.intro h2 (And.intro h2 (And.intro h2 (And.intro (And.intro o0 o1) (And.intro h2 (And.intro (And.intro (rfl : V = V) (And.intro (show (1 : Nat) = (1 : Nat) by first | decide | exact Int.NonNeg.mk _) o2)) (And.intro h2 (And.intro h1 (And.intro h2 (And.intro h1 (And.intro h3 (And.intro h3 (And.intro h3 (And.intro h3 (And.intro h3 (And.intro h1 (And.intro h3 (And.intro h1 (And.intro (And.intro (show (AV.bool false) = ((AV.bool (r33.v L j l m g xs a s))) by first | (simp only [r33.v, h1, h2, h3, cond_true, cond_false]; done) | (try unfold r33.v; try simp only [h1, cond_true, cond_false]; try simp only [h2, cond_true, cond_false]; try simp only [h3, cond_true, cond_false]; try rfl; done) | rfl) trivial) (rfl : (r33.h1 L j l m g xs V a s) = [AObj.var (AV.int IntKind.i64 L), AObj.var (AV.int IntKind.i64 j), AObj.var (AV.int IntKind.i64 l), AObj.var (ivs m g), AObj.row 1 V (Col.ints IntKind.i64 xs), AObj.var (AV.ms 4 V 1 0 V)])))))))))))))))))))))))))))))
    | false =>
      have h2p := of_decide_eq_false h2
      exact Ret.of_runH mix [(AV.bool (r33.v L j l m g xs a s))] (r33.h0 L j l m g xs V a s) Try.func33 rfl [.b false, .b false, .b false, .b false, .b false, .b false, .b false, .b false, .b false, .b false, .b false, .b false, .b false, .b false, .b false, .b false, .b false, .b false, .b false, .b false, .b false, .b false, .b false, .b false] (by simp) (kmp (by kernel_rfl) (And.intro h1 (And.intro h1 (And.intro h1 (And.intro h1 (And.intro h1 (And.intro h1 (And.intro h2 (And.intro h2 (And.intro h2 (And.intro h2 (And.intro h2 (And.intro h2 (And.intro h2 (And.intro h1 (And.intro h2 (And.intro h1 (And.intro (rfl : false = false) (And.intro (rfl : false = false) (And.intro (rfl : false = false) (And.intro (rfl : false = false) (And.intro (rfl : false = false) (And.intro h1 (And.intro (rfl : false = false) (And.intro h1 (And.intro (And.intro (show (AV.bool false) = ((AV.bool (r33.v L j l m g xs a s))) by first | (simp only [r33.v, h1, h2, cond_true, cond_false]; done) | (try unfold r33.v; try simp only [h1, cond_true, cond_false]; try simp only [h2, cond_true, cond_false]; try rfl; done) | rfl) trivial) (rfl : (r33.h1 L j l m g xs V a s) = [AObj.var (AV.int IntKind.i64 L), AObj.var (AV.int IntKind.i64 j), AObj.var (AV.int IntKind.i64 l), AObj.var (ivs m g), AObj.row 1 V (Col.ints IntKind.i64 xs), AObj.var (AV.ms 4 V 1 0 V)])))))))))))))))))))))))))))

end Go.Proofs.Ytjdbmmilcihpoaa

/- Plain laws: the two checks of a layout's arguments, free joints, Laid. Conditions: none. -/
open Go
namespace Go.Proofs.Ytjdbmmilcihpoaa
set_option linter.unusedVariables false
set_option linter.unusedSimpArgs false
variable {L j l : Int} {n m : Nat} {f g : Nat → Int}

noncomputable def szB (f : Nat → Int) (i : Nat) : Bool := !(r51.v (f i) 1 20000)
noncomputable def blB (g : Nat → Int) (i : Nat) : Bool := !(r51.v (g i) 0 40000)
def incB (f : Nat → Int) (i : Nat) : Bool := decide (f (i - 1) ≥ f i)
theorem pred_idx {i : Nat} (hn : n ≤ 9223372036854775807) (hi : i < n) (h : 0 < i) : (IntKind.i64.wrap ((i : Int) - 1)).toNat = i - 1 := by
  rw [i64_small (by omega)]; omega

theorem r62a_any (hn : n ≤ 9223372036854775807) : r62a.v n f = anyN n (szB f) := by
  have := search_eq (n := n) (szB f) (fun i => L79aa.O.e0 (i : Int)) .e1 (N := L79aa.N n f) (fun k' i h => by
    simp only [L79aa.N, wrap_succ hn h, Int.toNat_natCast]
    rw [decide_eq_true (show (i : Int) < n by omega)]
    rfl) (fun k => by simp [L79aa.N]) (n + 1) 0 (Nat.zero_le _) (by omega)
  have e : L79aa.run n f 0 = srch (szB f) (fun i => L79aa.O.e0 (i : Int)) .e1 0 n := by simpa [L79aa.run] using this
  unfold r62a.v r79a.v
  rw [e]
  rcases srch_cases (szB f) (fun i => L79aa.O.e0 (i : Int)) .e1 n 0 with ⟨a1, a2⟩ | ⟨i, a1, a2, a3, a4, a5⟩
  · rw [a2, anyN_false.2 fun i hi => a1 i (Nat.zero_le _) (by omega)]; rfl
  · rw [a5, anyN_true.2 ⟨i, by omega, a3⟩]; simp
theorem r62b_any (hn : n ≤ 9223372036854775807) : r62b.v n f = anyN n (blB f) := by
  have := search_eq (n := n) (blB f) (fun i => L79ba.O.e0 (i : Int)) .e1 (N := L79ba.N n f) (fun k' i h => by
    simp only [L79ba.N, wrap_succ hn h, Int.toNat_natCast]
    rw [decide_eq_true (show (i : Int) < n by omega)]
    rfl) (fun k => by simp [L79ba.N]) (n + 1) 0 (Nat.zero_le _) (by omega)
  have e : L79ba.run n f 0 = srch (blB f) (fun i => L79ba.O.e0 (i : Int)) .e1 0 n := by simpa [L79ba.run] using this
  unfold r62b.v r79b.v
  rw [e]
  rcases srch_cases (blB f) (fun i => L79ba.O.e0 (i : Int)) .e1 n 0 with ⟨a1, a2⟩ | ⟨i, a1, a2, a3, a4, a5⟩
  · rw [a2, anyN_false.2 fun i hi => a1 i (Nat.zero_le _) (by omega)]; rfl
  · rw [a5, anyN_true.2 ⟨i, by omega, a3⟩]; simp
theorem L15a_run (hn : n ≤ 9223372036854775807) : L15a.run n f 0 = bif anyN n (szB f) then .e0 else .e1 := by
  have := search_eq (n := n) (szB f) (fun _ => L15a.O.e0) .e1 (N := L15a.N n f) (fun k' i h => by
    simp only [L15a.N, wrap_succ hn h, Int.toNat_natCast]
    rw [decide_eq_true (show (i : Int) < n by omega)]
    unfold szB
    rw [show r51.v (f i) 1 20000 = r37.v (f i) 1 20000 from rfl]
    cases r37.v (f i) 1 20000 <;> rfl) (fun k => by simp [L15a.N]) (n + 1) 0 (Nat.zero_le _) (by omega)
  rw [srch_any] at this
  simpa [L15a.run] using this
theorem L15b_run (hn : n ≤ 9223372036854775807) : L15b.run n f 0 = bif anyN n (blB f) then .e0 else .e1 := by
  have := search_eq (n := n) (blB f) (fun _ => L15b.O.e0) .e1 (N := L15b.N n f) (fun k' i h => by
    simp only [L15b.N, wrap_succ hn h, Int.toNat_natCast]
    rw [decide_eq_true (show (i : Int) < n by omega)]
    unfold blB
    rw [show r51.v (f i) 0 40000 = r37.v (f i) 0 40000 from rfl]
    cases r37.v (f i) 0 40000 <;> rfl) (fun k => by simp [L15b.N]) (n + 1) 0 (Nat.zero_le _) (by omega)
  rw [srch_any] at this
  simpa [L15b.run] using this
theorem srch_any1 {O : Type} (p : Nat → Bool) (a b : O) (n : Nat) : srch p (fun _ => a) b 1 (n - 1) = bif anyN n (fun i => decide (0 < i) && p i) then a else b := by
  rcases srch_cases p (fun _ => a) b (n - 1) 1 with ⟨h1, h2⟩ | ⟨j, h1, h2, h3, h4, h5⟩
  · rw [h2, anyN_false.2 fun i hi => ?_]; rfl
    by_cases e : 0 < i
    · rw [h1 i e (by omega)]; simp
    · rw [decide_eq_false e]; rfl
  · rw [h5, anyN_true.2 ⟨j, by omega, by rw [h3, decide_eq_true (show 0 < j by omega)]; rfl⟩]; rfl
theorem L32_run (hn : n ≤ 9223372036854775807) : L32a.run n f 1 = bif anyN n (fun i => decide (0 < i) && incB f i) then .e0 else .e1 := by
  by_cases h0 : n = 0
  · subst h0; rfl
  have key : ∀ m i, 0 < i → i ≤ n → n - i < m → L32a.N n f m (i : Int) = srch (incB f) (fun _ => .e0) .e1 i (n - i) := by
    intro m
    induction m with
    | zero => intro i _ _ h; omega
    | succ m ih =>
      intro i h1 h2 h3
      simp only [L32a.N, Int.toNat_natCast]
      by_cases h : i < n
      · rw [decide_eq_true (show (i : Int) < n by omega), wrap_succ hn h, pred_idx hn h h1, show n - i = (n - (i + 1)) + 1 by omega]
        simp only [srch, cond_true]
        rw [ih (i + 1) (by omega) h (by omega)]
        rfl
      · rw [decide_eq_false (by omega), show n - i = 0 by omega]; rfl
  have e := key (((n : Int) - 1).toNat + 1) 1 (by omega) (by omega) (by omega)
  rw [srch_any1] at e
  exact e
theorem L15c_run (hn : n ≤ 9223372036854775807) : L15c.run n f 1 = bif anyN n (fun i => decide (0 < i) && incB f i) then .e0 else .e1 := by
  by_cases h0 : n = 0
  · subst h0; rfl
  have key : ∀ m i, 0 < i → i ≤ n → n - i < m → L15c.N n f m (i : Int) = srch (incB f) (fun _ => .e0) .e1 i (n - i) := by
    intro m
    induction m with
    | zero => intro i _ _ h; omega
    | succ m ih =>
      intro i h1 h2 h3
      simp only [L15c.N, Int.toNat_natCast]
      by_cases h : i < n
      · rw [decide_eq_true (show (i : Int) < n by omega), wrap_succ hn h, pred_idx hn h h1, show n - i = (n - (i + 1)) + 1 by omega]
        simp only [srch, cond_true]
        rw [ih (i + 1) (by omega) h (by omega)]
        rfl
      · rw [decide_eq_false (by omega), show n - i = 0 by omega]; rfl
  have e := key (((n : Int) - 1).toNat + 1) 1 (by omega) (by omega) (by omega)
  rw [srch_any1] at e
  exact e

/-- Both checks say the same. -/
theorem legal_same (hn : n ≤ 9223372036854775807) (hm : m ≤ 9223372036854775807) : r15.v L j l n f m g = r32.v L j l n f m g := by
  unfold r15.v r32.v
  rw [L15a_run hn, L15b_run hm, L15c_run hn, L32_run hn, r62a_any hn, r62b_any hm]
  rw [show r51.v L 1 20000 = r37.v L 1 20000 from rfl, show r51.v j 0 1000 = r37.v j 0 1000 from rfl, show r51.v l 0 20000 = r37.v l 0 20000 from rfl]
  by_cases h0 : n = 0
  · subst h0
    rw [show anyN 0 (fun i => decide (0 < i) && incB f i) = false from rfl]
    cases decide (((0 : Nat) : Int) > 16) <;> cases decide ((m : Int) > 200) <;> cases r37.v L 1 20000 <;> cases r37.v j 0 1000 <;> cases r37.v l 0 20000 <;> cases anyN 0 (szB f) <;> cases anyN m (blB g) <;> rfl
  · rw [show ((n : Int) == 0) = false from beq_eq_false_iff_ne.2 (by omega)]
    cases decide ((n : Int) > 16) <;> cases decide ((m : Int) > 200) <;> cases r37.v L 1 20000 <;> cases r37.v j 0 1000 <;> cases r37.v l 0 20000 <;> cases anyN n (szB f) <;> cases anyN m (blB g) <;> cases anyN n (fun i => decide (0 < i) && incB f i) <;> rfl

theorem in_true {x a b : Int} (h : r51.v x a b = true) : a ≤ x ∧ x ≤ b := by
  unfold r51.v at h
  by_cases c : x ≥ a
  · rw [decide_eq_true c] at h
    exact ⟨c, of_decide_eq_true h⟩
  · rw [decide_eq_false c] at h; cases h

theorem bd_ok (h : (r32.v L j l n f m g == 0) = true) (hn : n ≤ 9223372036854775807) (hm : m ≤ 9223372036854775807) : LOk L j l n f m g := by
  have h := eq_of_beq h
  unfold r32.v at h
  rw [r62a_any hn, r62b_any hm, L32_run hn] at h
  by_cases c1 : (n : Int) > 16
  · rw [decide_eq_true c1] at h; cases h
  by_cases c2 : (m : Int) > 200
  · rw [decide_eq_false c1, decide_eq_true c2] at h; cases h
  rw [decide_eq_false c1, decide_eq_false c2] at h
  simp only [cond_false] at h
  cases q1 : r51.v L 1 20000 with
  | false => rw [q1] at h; cases h
  | true =>
  cases q2 : r51.v j 0 1000 with
  | false => rw [q1, q2] at h; cases h
  | true =>
  cases q3 : r51.v l 0 20000 with
  | false => rw [q1, q2, q3] at h; cases h
  | true =>
  cases q4 : anyN n (szB f) with
  | true => rw [q1, q2, q3, q4] at h; cases h
  | false =>
  cases q5 : anyN m (blB g) with
  | true => rw [q1, q2, q3, q4, q5] at h; cases h
  | false =>
  cases q6 : ((n : Int) == 0) with
  | true => rw [q1, q2, q3, q4, q5, q6] at h; cases h
  | false =>
  cases q7 : anyN n (fun i => decide (0 < i) && incB f i) with
  | true => rw [q1, q2, q3, q4, q5, q6, q7] at h; cases h
  | false =>
  have hne : (n : Int) ≠ 0 := ne_of_beq_false q6
  have hs : ∀ i, i < n → 1 ≤ f i ∧ f i ≤ 20000 := fun i hi => in_true (by simpa [szB] using anyN_false.1 q4 i hi)
  have hb : ∀ i, i < m → 0 ≤ g i ∧ g i ≤ 40000 := fun i hi => in_true (by simpa [blB] using anyN_false.1 q5 i hi)
  exact ⟨(in_true q1).1, (in_true q1).2, (in_true q2).1, (in_true q2).2, (in_true q3).1, (in_true q3).2, by omega, by omega, by omega, fun i hi => (hs i hi).1, fun i hi => (hs i hi).2, fun i hi => by
    have := anyN_false.1 q7 (i + 1) hi
    simp only [incB, Nat.add_sub_cancel, Bool.and_eq_false_iff, decide_eq_false_iff_not] at this
    omega, fun i hi => (hb i hi).1, fun i hi => (hb i hi).2⟩

/-! ### Free joints -/
theorem free_same (at_ : Int) (hm : m ≤ 9223372036854775807) : r36.v at_ j l m g = r34.v at_ j l m g := by
  have h1 := search_eq (n := m) (fun i => r65.v at_ j l (g i)) (fun i => L79ca.O.e0 (i : Int)) .e1 (N := L79ca.N at_ j l m g) (fun k' i h => by
    simp only [L79ca.N, wrap_succ hm h, Int.toNat_natCast]
    rw [decide_eq_true (show (i : Int) < m by omega)]
    rfl) (fun k => by simp [L79ca.N]) (m + 1) 0 (Nat.zero_le _) (by omega)
  have e1 : L79ca.run at_ j l m g 0 = srch (fun i => r65.v at_ j l (g i)) (fun i => L79ca.O.e0 (i : Int)) .e1 0 m := by simpa [L79ca.run] using h1
  have h2 := search_eq (n := m) (fun i => r65.v at_ j l (g i)) (fun _ => L36a.O.e0) .e1 (N := L36a.N at_ j l m g) (fun k' i h => by
    simp only [L36a.N, wrap_succ hm h, Int.toNat_natCast]
    rw [decide_eq_true (show (i : Int) < m by omega)]
    rfl) (fun k => by simp [L36a.N]) (m + 1) 0 (Nat.zero_le _) (by omega)
  rw [srch_any] at h2
  have e2 : L36a.run at_ j l m g 0 = bif anyN m (fun i => r65.v at_ j l (g i)) then .e0 else .e1 := by simpa [L36a.run] using h2
  unfold r36.v r34.v r62c.v r79c.v
  rw [e1, e2]
  rcases srch_cases (fun i => r65.v at_ j l (g i)) (fun i => L79ca.O.e0 (i : Int)) .e1 m 0 with ⟨a1, a2⟩ | ⟨i, a1, a2, a3, a4, a5⟩
  · rw [a2, anyN_false.2 fun i hi => a1 i (Nat.zero_le _) (by omega)]; rfl
  · rw [a5, anyN_true.2 ⟨i, by omega, a3⟩]
    show false = !decide ((i : Int) ≥ 0)
    rw [decide_eq_true (by omega)]; rfl

/-! ### Known sizes -/
def memB (n : Nat) (f : Nat → Int) (x : Int) : Bool := anyN n fun i => f i == x
theorem r35_eq (hn : n ≤ 9223372036854775807) (x : Int) : r35.v n f x = memB n f x := by
  have h1 := search_eq (n := n) (fun i => x == f i) (fun i => L66a.O.e0 (i : Int)) .e1 (N := L66a.N n f x) (fun k' i h => by
    simp only [L66a.N, wrap_succ hn h, Int.toNat_natCast]
    rw [decide_eq_true (show (i : Int) < n by omega)]
    rfl) (fun k => by simp [L66a.N]) (n + 1) 0 (Nat.zero_le _) (by omega)
  have e1 : L66a.run n f x 0 = srch (fun i => x == f i) (fun i => L66a.O.e0 (i : Int)) .e1 0 n := by simpa [L66a.run] using h1
  unfold r35.v r66.v memB
  rw [e1]
  have ec : anyN n (fun i => f i == x) = anyN n (fun i => x == f i) := anyN_congr fun i _ => Bool.eq_iff_iff.2 ⟨fun h => beq_iff_eq.2 (eq_of_beq h).symm, fun h => beq_iff_eq.2 (eq_of_beq h).symm⟩
  rw [ec]
  rcases srch_cases (fun i => x == f i) (fun i => L66a.O.e0 (i : Int)) .e1 n 0 with ⟨a1, a2⟩ | ⟨i, a1, a2, a3, a4, a5⟩
  · rw [a2, anyN_false.2 fun i hi => a1 i (Nat.zero_le _) (by omega)]; rfl
  · rw [a5, anyN_true.2 ⟨i, by omega, a3⟩]; simp

theorem L14b_run (hn : n ≤ 9223372036854775807) (s : Nat → Int) (a : Int) : ∀ q i b, i ≤ n → n - i < q → L14ab.N n f s a q b (i : Int) = .e0 (b || (List.range' i (n - i)).any fun t => f t == s a.toNat) := by
  intro q
  induction q with
  | zero => intro i b _ h; omega
  | succ q ih =>
    intro i b hi hq
    simp only [L14ab.N, Int.toNat_natCast]
    by_cases h : i < n
    · rw [decide_eq_true (show (i : Int) < n by omega), wrap_succ hn h, show n - i = (n - (i + 1)) + 1 by omega, List.range'_succ]
      simp only [cond_true, List.any_cons]
      cases b with
      | true => simp only [cond_true]; rw [ih (i + 1) true h (by omega)]; simp
      | false => simp only [cond_false]; rw [ih (i + 1) _ h (by omega)]; simp
    · rw [decide_eq_false (by omega), show n - i = 0 by omega]; simp
theorem L14b_eq (hn : n ≤ 9223372036854775807) (s : Nat → Int) (a : Int) : L14ab.run n f s a false 0 = .e0 (memB n f (s a.toNat)) := by
  have := L14b_run hn (f := f) s a (((n : Int) - 0).toNat + 1) 0 false (Nat.zero_le _) (by omega)
  have e : L14ab.run n f s a false 0 = .e0 (false || (List.range' 0 (n - 0)).any fun t => f t == s a.toNat) := this
  rw [e]
  unfold memB anyN
  rw [List.range_eq_range']; simp

theorem mem_bd (h : LOk L j l n f m g) {x : Int} (hx : memB n f x = true) : 1 ≤ x ∧ x ≤ 20000 := by
  obtain ⟨i, hi, e⟩ := anyN_true.1 hx
  have e := eq_of_beq e
  have := h.f1 i hi; have := h.f2 i hi
  omega
end Go.Proofs.Ytjdbmmilcihpoaa

/- the wall seat's contracts: the first loops of Layout. -/
open Go
namespace Go.Proofs.Ytjdbmmilcihpoaa
set_option linter.unusedSimpArgs false
set_option linter.unusedVariables false
set_option maxHeartbeats 0
set_option maxRecDepth 100000
inductive L11ab.O where
  | e0 (a0 : List Int)
noncomputable def L11ab.T (L : Int) (j : Int) (l : Int) (n : Nat) (f : Nat → Int) (m : Nat) (g : Nat → Int) (V : Nat) (a15 : Int) (b41 : Int) (xs : List Int) : List AV := mkT 77 [(3, ivs n f), (5, AV.ptr 0 1 1 0 0), (6, AV.ptr 1 1 1 0 0), (13, AV.ptr 5 1 1 0 0), (14, AV.fn 33 [AV.ptr 0 1 1 0 0, AV.ptr 1 1 1 0 0, AV.ptr 5 1 1 0 0, AV.ptr 2 1 1 0 0, AV.ptr 3 1 1 0 0]), (15, AV.int IntKind.i64 a15), (39, ivs n f), (40, AV.int IntKind.i64 (↑n : Int)), (41, AV.int IntKind.i64 b41)]
noncomputable def L11ab.H (L : Int) (j : Int) (l : Int) (n : Nat) (f : Nat → Int) (m : Nat) (g : Nat → Int) (V : Nat) (a15 : Int) (b41 : Int) (xs : List Int) : AHeap := [AObj.var (AV.int IntKind.i64 L), AObj.var (AV.int IntKind.i64 j), AObj.var (AV.int IntKind.i64 l), AObj.var (ivs m g), AObj.row 1 V (Col.ints IntKind.i64 xs), AObj.var (AV.ms 4 V 1 0 V)]
def L11ab.inv (L : Int) (j : Int) (l : Int) (n : Nat) (f : Nat → Int) (m : Nat) (g : Nat → Int) (V : Nat) (a15 : Int) (b41 : Int) (xs : List Int) : Prop := (0 ≤ b41 ∧ b41 ≤ (↑n : Int)) ∧ xs.length = V
noncomputable def L11ab.mu (L : Int) (j : Int) (l : Int) (n : Nat) (f : Nat → Int) (m : Nat) (g : Nat → Int) (V : Nat) (a15 : Int) (b41 : Int) (xs : List Int) : Nat := ((↑n : Int) - b41).toNat
noncomputable def L11ab.E : L11ab.O → Exit
  | .e0 a0 => Exit.exit 2
noncomputable def L11ab.X (L : Int) (j : Int) (l : Int) (n : Nat) (f : Nat → Int) (m : Nat) (g : Nat → Int) (V : Nat) (a15 : Int) : L11ab.O → List AV
  | .e0 a0 => mkT 77 [(3, (AV.sl 1 n fun (i : Nat) => AV.int IntKind.i64 (f i))), (5, (AV.ptr 0 1 1 0 0)), (6, (AV.ptr 1 1 1 0 0)), (13, (AV.ptr 5 1 1 0 0)), (14, (AV.fn 33 [AV.ptr 0 1 1 0 0, AV.ptr 1 1 1 0 0, AV.ptr 5 1 1 0 0, AV.ptr 2 1 1 0 0, AV.ptr 3 1 1 0 0])), (15, (AV.int IntKind.i64 a15))]
noncomputable def L11ab.XH (L : Int) (j : Int) (l : Int) (n : Nat) (f : Nat → Int) (m : Nat) (g : Nat → Int) (V : Nat) (a15 : Int) : L11ab.O → AHeap
  | .e0 a0 => ((AObj.var (AV.int IntKind.i64 L)) :: ((AObj.var (AV.int IntKind.i64 j)) :: ((AObj.var (AV.int IntKind.i64 l)) :: ((AObj.var (AV.sl 1 m fun (i : Nat) => AV.int IntKind.i64 (g i))) :: ((AObj.row 1 (V) (Col.ints IntKind.i64 a0)) :: ([AObj.var (AV.ms 4 V 1 0 V)]))))))
noncomputable def L11ab.N (L : Int) (j : Int) (l : Int) (n : Nat) (f : Nat → Int) (m : Nat) (g : Nat → Int) (a15 : Int) : Nat → Int → (List Int) → L11ab.O
  | 0, _, xs => .e0 xs
  | k_ + 1, b41, xs => (bif decide (b41 < (↑n : Int)) then (bif r33.v L j l m g xs a15 (f b41.toNat) then (.e0 (xs.set (0 + a15.toNat) (f b41.toNat))) else (L11ab.N L j l n f m g a15 k_ (IntKind.i64.wrap (b41 + 1)) (xs))) else (.e0 (xs)))
noncomputable def L11ab.run (L : Int) (j : Int) (l : Int) (n : Nat) (f : Nat → Int) (m : Nat) (g : Nat → Int) (a15 : Int) (b41 : Int) (xs : List Int) : L11ab.O := L11ab.N L j l n f m g a15 ((((↑n : Int) - b41).toNat) + 1) b41 xs
def L11ab.Next (L : Int) (j : Int) (l : Int) (n : Nat) (f : Nat → Int) (m : Nat) (g : Nat → Int) (V : Nat) (a15 : Int) (k_ : Nat) (z_ : Int × (List Int)) (T_ : List AV) (h_ : AHeap) : Prop := LNextP (fun (z_ : Int × (List Int)) => L11ab.T L j l n f m g V a15 z_.1 z_.2) (fun (z_ : Int × (List Int)) => L11ab.H L j l n f m g V a15 z_.1 z_.2) (fun (z_ : Int × (List Int)) => L11ab.inv L j l n f m g V a15 z_.1 z_.2) (fun (z_ : Int × (List Int)) => L11ab.mu L j l n f m g V a15 z_.1 z_.2) (fun (k_ : Nat) (z_ : Int × (List Int)) => L11ab.N L j l n f m g a15 k_ z_.1 z_.2) k_ z_ T_ h_
def L11ab.End (L : Int) (j : Int) (l : Int) (n : Nat) (f : Nat → Int) (m : Nat) (g : Nat → Int) (V : Nat) (a15 : Int) (k_ : Nat) (z_ : Int × (List Int)) (e_ : Exit) (T_ : List AV) (h_ : AHeap) : Prop := LEndP (fun (z_ : Int × (List Int)) => L11ab.H L j l n f m g V a15 z_.1 z_.2) (fun (k_ : Nat) (z_ : Int × (List Int)) => L11ab.N L j l n f m g a15 k_ z_.1 z_.2) L11ab.E (L11ab.X L j l n f m g V a15) (L11ab.XH L j l n f m g V a15) k_ z_ e_ T_ h_
theorem L11ab.nx (L : Int) (j : Int) (l : Int) (n : Nat) (f : Nat → Int) (m : Nat) (g : Nat → Int) (V : Nat) (a15 : Int) {k_ : Nat} {z_ : Int × (List Int)} {h_ : AHeap} (s_ : Int × (List Int)) (h1 : L11ab.inv L j l n f m g V a15 s_.1 s_.2) (h2 : L11ab.mu L j l n f m g V a15 s_.1 s_.2 < L11ab.mu L j l n f m g V a15 z_.1 z_.2) (h3 : L11ab.N L j l n f m g a15 k_ s_.1 s_.2 = L11ab.N L j l n f m g a15 (k_ + 1) z_.1 z_.2) (h4 : PopOk (L11ab.H L j l n f m g V a15 z_.1 z_.2) h_ (L11ab.T L j l n f m g V a15 s_.1 s_.2) (L11ab.H L j l n f m g V a15 s_.1 s_.2)) : LNextP (fun (z_ : Int × (List Int)) => L11ab.T L j l n f m g V a15 z_.1 z_.2) (fun (z_ : Int × (List Int)) => L11ab.H L j l n f m g V a15 z_.1 z_.2) (fun (z_ : Int × (List Int)) => L11ab.inv L j l n f m g V a15 z_.1 z_.2) (fun (z_ : Int × (List Int)) => L11ab.mu L j l n f m g V a15 z_.1 z_.2) (fun (k_ : Nat) (z_ : Int × (List Int)) => L11ab.N L j l n f m g a15 k_ z_.1 z_.2) k_ z_ (L11ab.T L j l n f m g V a15 s_.1 s_.2) h_ := LNextP.mk (Tm := (fun (z_ : Int × (List Int)) => L11ab.T L j l n f m g V a15 z_.1 z_.2)) (Hp := (fun (z_ : Int × (List Int)) => L11ab.H L j l n f m g V a15 z_.1 z_.2)) (inv := (fun (z_ : Int × (List Int)) => L11ab.inv L j l n f m g V a15 z_.1 z_.2)) (mu := (fun (z_ : Int × (List Int)) => L11ab.mu L j l n f m g V a15 z_.1 z_.2)) (l := (fun (k_ : Nat) (z_ : Int × (List Int)) => L11ab.N L j l n f m g a15 k_ z_.1 z_.2)) s_ h1 h2 h3 h4
theorem L11ab.en (L : Int) (j : Int) (l : Int) (n : Nat) (f : Nat → Int) (m : Nat) (g : Nat → Int) (V : Nat) (a15 : Int) {k_ : Nat} {z_ : Int × (List Int)} {h_ : AHeap} (o_ : L11ab.O) (h3 : L11ab.N L j l n f m g a15 (k_ + 1) z_.1 z_.2 = o_) (h4 : PopOk (L11ab.H L j l n f m g V a15 z_.1 z_.2) h_ (L11ab.X L j l n f m g V a15 o_) (L11ab.XH L j l n f m g V a15 o_)) : LEndP (fun (z_ : Int × (List Int)) => L11ab.H L j l n f m g V a15 z_.1 z_.2) (fun (k_ : Nat) (z_ : Int × (List Int)) => L11ab.N L j l n f m g a15 k_ z_.1 z_.2) L11ab.E (L11ab.X L j l n f m g V a15) (L11ab.XH L j l n f m g V a15) k_ z_ (L11ab.E o_) (L11ab.X L j l n f m g V a15 o_) h_ := LEndP.mk (Hp := (fun (z_ : Int × (List Int)) => L11ab.H L j l n f m g V a15 z_.1 z_.2)) (l := (fun (k_ : Nat) (z_ : Int × (List Int)) => L11ab.N L j l n f m g a15 k_ z_.1 z_.2)) (oE := L11ab.E) (oT := L11ab.X L j l n f m g V a15) (oH := L11ab.XH L j l n f m g V a15) o_ h3 h4
theorem L11ab.spec (L : Int) (j : Int) (l : Int) (n : Nat) (f : Nat → Int) (hn : n ≤ 9223372036854775807) (m : Nat) (g : Nat → Int) (hm : m ≤ 9223372036854775807) (hk : LOk L j l n f m g) (V : Nat) (hV2 : V = (L + 1).toNat) (a15 : Int) (h0 : 0 ≤ a15) (h1 : a15 ≤ L - 1) (k_ : Nat) (z_ : Int × (List Int)) (hi_ : L11ab.inv L j l n f m g V a15 z_.1 z_.2) (hm_ : L11ab.mu L j l n f m g V a15 z_.1 z_.2 < k_) : LoopTo Try.prog (loopN Try.f11 1) (L11ab.T L j l n f m g V a15 z_.1 z_.2) (L11ab.H L j l n f m g V a15 z_.1 z_.2) (L11ab.E (L11ab.N L j l n f m g a15 k_ z_.1 z_.2)) (L11ab.X L j l n f m g V a15 (L11ab.N L j l n f m g a15 k_ z_.1 z_.2)) (L11ab.XH L j l n f m g V a15 (L11ab.N L j l n f m g a15 k_ z_.1 z_.2)) := by
  refine LoopTo.fuelP mix (fun (z_ : Int × (List Int)) => L11ab.T L j l n f m g V a15 z_.1 z_.2) (fun (z_ : Int × (List Int)) => L11ab.H L j l n f m g V a15 z_.1 z_.2) (fun (z_ : Int × (List Int)) => L11ab.inv L j l n f m g V a15 z_.1 z_.2) (fun (z_ : Int × (List Int)) => L11ab.mu L j l n f m g V a15 z_.1 z_.2) (fun (k_ : Nat) (z_ : Int × (List Int)) => L11ab.N L j l n f m g a15 k_ z_.1 z_.2) L11ab.E (L11ab.X L j l n f m g V a15) (L11ab.XH L j l n f m g V a15) (others 77 [3, 5, 6, 13, 14, 15, 39, 40, 41]) (others 77 [10, 11]) (others 77 [3, 5, 6, 13, 14, 15]) ?_ k_ z_ hi_ hm_
  clear hm_ hi_ z_ k_
  intro k_ z_ hinv hmu
  obtain ⟨b41, xs⟩ := z_
  have hinv : (0 ≤ b41 ∧ b41 ≤ (↑n : Int)) ∧ xs.length = V := hinv
  have hmu : (((↑n : Int) - b41).toNat) < k_ + 1 := hmu
  cases h1 : decide (b41 < (↑n : Int)) with
  | true =>
    have h1p := of_decide_eq_true h1
    try have := bd_len (by first | assumption | omega)
    try have := bd_sz (by first | assumption | omega) (by first | assumption | omega) (by first | assumption | omega)
    have o0 : (0 : Int) ≤ b41 := by first | assumption | omega | (simp_all; done)
    have o1 : b41 < (↑n : Int) := by first | assumption | omega | (simp_all; done)
    have o2 : L ≤ (20000 : Int) := by first | assumption | omega | (simp_all; done)
    have o3 : (0 : Int) ≤ j := by first | assumption | omega | (simp_all; done)
    have o4 : j ≤ (1000 : Int) := by first | assumption | omega | (simp_all; done)
    have o5 : m ≤ (9223372036854775807 : Nat) := by first | assumption | omega | (simp_all; done)
    have o6 : xs.length = V := by first | assumption | omega | (simp only [List.length_append, List.length_cons, List.length_nil, List.length_map]; omega) | (simp_all; done)
    have o7 : V = (L + (1 : Int)).toNat := by first | assumption | omega | (simp_all; done)
    have o8 : (0 : Int) ≤ a15 := by first | assumption | omega | (simp_all; done)
    have o9 : a15 ≤ (20000 : Int) := by first | assumption | omega | (simp_all; done)
    have o10 : (1 : Int) ≤ f b41.toNat := by first | assumption | omega | (simp_all; done)
    have o11 : f b41.toNat ≤ (20000 : Int) := by first | assumption | omega | (simp_all; done)
    cases h2 : r33.v L j l m g xs a15 (f b41.toNat) with
    | true =>
      try have := bd_len (by first | assumption | omega)
      try have := bd_sz (by first | assumption | omega) (by first | assumption | omega) (by first | assumption | omega)
      have o12 : a15 < (↑V : Int) := by first | assumption | omega | (simp_all; done)
      have o13 : (0 : Nat) + a15.toNat < (Col.ints IntKind.i64 xs).len := by first | assumption | omega | (simp only [List.length_append, List.length_cons, List.length_nil, List.length_map]; omega) | rfl | (exact Nat.le_refl _) | (simp [Col.len]; done) | (simp only [Col.len, zero_bool, zero_int, List.length_replicate, List.length_set] at *; omega) | (simp_all; done)
      exact ⟨[.b true, .ret (AV.bool (r33.v L j l m g xs a15 (f b41.toNat))) ([AObj.var (AV.int IntKind.i64 L), AObj.var (AV.int IntKind.i64 j), AObj.var (AV.int IntKind.i64 l), AObj.var (AV.sl 1 m fun (i : Nat) => AV.int IntKind.i64 (g i)), AObj.row 1 V (Col.ints IntKind.i64 xs), AObj.var (AV.ms 4 V 1 0 V)]), .b true], kmp (by kernel_rfl) (And.intro h1 (And.intro (And.intro o0 o1) (And.intro (r33 (L) (j) (l) o2 o3 o4 (m) (g) o5 (xs) (V) o6 o7 (a15) (f b41.toNat) o8 o9 o10 o11) (And.intro h2 (And.intro (And.intro o8 o12) (And.intro (And.intro (rfl : V = V) o13) (L11ab.en L j l n f m g V a15 (k_ := k_) (z_ := (b41, xs)) (.e0 (xs.set (0 + a15.toNat) (f b41.toNat)) : L11ab.O) (by first | (simp only [L11ab.N, h1, h2, cond_true, cond_false]; done) | (try unfold L11ab.N; try simp only [h1, cond_true, cond_false]; try simp only [h2, cond_true, cond_false]; try rfl; done)) PopOk.same)))))))⟩
    | false =>
      try have := bd_len (by first | assumption | omega)
      try have := bd_sz (by first | assumption | omega) (by first | assumption | omega) (by first | assumption | omega)
      try have := IntWalk.i64_in (b41 + 1) (by omega)
      have o14 : (0 : Int) ≤ IntKind.i64.wrap (b41 + (1 : Int)) := by first | assumption | omega | (simp_all; done)
      have o15 : IntKind.i64.wrap (b41 + (1 : Int)) ≤ (↑n : Int) := by first | assumption | omega | (simp_all; done)
      have o16 : ((↑n : Int) - IntKind.i64.wrap (b41 + (1 : Int))).toNat < ((↑n : Int) - b41).toNat := by first | assumption | omega | (simp_all; done)
      exact ⟨[.b true, .ret (AV.bool (r33.v L j l m g xs a15 (f b41.toNat))) ([AObj.var (AV.int IntKind.i64 L), AObj.var (AV.int IntKind.i64 j), AObj.var (AV.int IntKind.i64 l), AObj.var (AV.sl 1 m fun (i : Nat) => AV.int IntKind.i64 (g i)), AObj.row 1 V (Col.ints IntKind.i64 xs), AObj.var (AV.ms 4 V 1 0 V)]), .b false], kmp (by kernel_rfl) (And.intro h1 (And.intro (And.intro o0 o1) (And.intro (r33 (L) (j) (l) o2 o3 o4 (m) (g) o5 (xs) (V) o6 o7 (a15) (f b41.toNat) o8 o9 o10 o11) (And.intro h2 (L11ab.nx L j l n f m g V a15 (k_ := k_) (z_ := (b41, xs)) ((IntKind.i64.wrap (b41 + 1), xs)) (And.intro (And.intro o14 o15) o6) o16 (by first | (simp only [L11ab.N, h1, h2, cond_true, cond_false]; done) | (try unfold L11ab.N; try simp only [h1, cond_true, cond_false]; try simp only [h2, cond_true, cond_false]; try rfl; done)) PopOk.same)))))⟩
  | false =>
    have h1p := of_decide_eq_false h1
    exact ⟨[.b false], kmp (by kernel_rfl) (And.intro h1 (L11ab.en L j l n f m g V a15 (k_ := k_) (z_ := (b41, xs)) (.e0 (xs) : L11ab.O) (by first | (simp only [L11ab.N, h1, cond_true, cond_false]; done) | (try unfold L11ab.N; try simp only [h1, cond_true, cond_false]; try rfl; done)) PopOk.same))⟩
theorem L11ab.e0 (L : Int) (j : Int) (l : Int) (n : Nat) (f : Nat → Int) (hn : n ≤ 9223372036854775807) (m : Nat) (g : Nat → Int) (hm : m ≤ 9223372036854775807) (hk : LOk L j l n f m g) (V : Nat) (hV2 : V = (L + 1).toNat) (a15 : Int) (h0 : 0 ≤ a15) (h1 : a15 ≤ L - 1) (b41 : Int) (xs : List Int) (hinv : L11ab.inv L j l n f m g V a15 b41 xs) (a0 : List Int) (hN : L11ab.run L j l n f m g a15 b41 xs = (.e0 a0 : L11ab.O)) : LoopTo Try.prog (loopN Try.f11 1) (L11ab.T L j l n f m g V a15 b41 xs) (L11ab.H L j l n f m g V a15 b41 xs) (Exit.exit 2) (L11ab.X L j l n f m g V a15 (.e0 a0 : L11ab.O)) (L11ab.XH L j l n f m g V a15 (.e0 a0 : L11ab.O)) := by
  have h_ := L11ab.spec L j l n f hn m g hm hk V hV2 a15 h0 h1 ((((↑n : Int) - b41).toNat) + 1) (b41, xs) hinv (Nat.lt_succ_self _)
  unfold L11ab.run at hN
  simp only [hN] at h_
  exact h_
theorem L11ab.leq0_0 (L : Int) (j : Int) (l : Int) (n : Nat) (f : Nat → Int) (m : Nat) (g : Nat → Int) (a15 : Int) : ∀ (m_ : Nat) (b41 : Int) (xs : List Int) (a0_ : List Int), L11ab.N L j l n f m g a15 m_ b41 xs = (.e0 a0_ : L11ab.O) → (a0_).length = (xs).length := by
  intro m_
  induction m_ with
  | zero =>
    intro b41 xs a0_ h_
    simp only [L11ab.N] at h_
    cases h_
    try rfl
  | succ m_ ih_ =>
    intro b41 xs a0_ h_
    cases h1 : decide (b41 < (↑n : Int)) with
    | true =>
      have h1p := of_decide_eq_true h1
      cases h2 : r33.v L j l m g xs a15 (f b41.toNat) with
      | true =>
        (simp only [L11ab.N, h1, h2, cond_true, cond_false] at h_; first | (have q_ := ih_ _ _ _ h_; (try simp only [List.length_set] at *); omega) | (cases h_; done) | (cases h_; first | rfl | simp))
      | false =>
        (simp only [L11ab.N, h1, h2, cond_true, cond_false] at h_; first | (have q_ := ih_ _ _ _ h_; (try simp only [List.length_set] at *); omega) | (cases h_; done) | (cases h_; first | rfl | simp))
    | false =>
      have h1p := of_decide_eq_false h1
      (simp only [L11ab.N, h1, cond_true, cond_false] at h_; first | (have q_ := ih_ _ _ _ h_; (try simp only [List.length_set] at *); omega) | (cases h_; done) | (cases h_; first | rfl | simp))
theorem L11ab.leqR0_0 (L : Int) (j : Int) (l : Int) (n : Nat) (f : Nat → Int) (m : Nat) (g : Nat → Int) (a15 : Int) {b41 : Int} {xs : List Int} {a0_ : List Int} (h_ : L11ab.run L j l n f m g a15 b41 xs = (.e0 a0_ : L11ab.O)) : (a0_).length = (xs).length := L11ab.leq0_0 L j l n f m g a15 _ b41 xs a0_ h_

inductive L11a.O where
  | e0 (a0 : List Int)
noncomputable def L11a.T (L : Int) (j : Int) (l : Int) (n : Nat) (f : Nat → Int) (m : Nat) (g : Nat → Int) (V : Nat) (a15 : Int) (xs : List Int) : List AV := mkT 77 [(3, ivs n f), (5, AV.ptr 0 1 1 0 0), (6, AV.ptr 1 1 1 0 0), (13, AV.ptr 5 1 1 0 0), (14, AV.fn 33 [AV.ptr 0 1 1 0 0, AV.ptr 1 1 1 0 0, AV.ptr 5 1 1 0 0, AV.ptr 2 1 1 0 0, AV.ptr 3 1 1 0 0]), (15, AV.int IntKind.i64 a15)]
noncomputable def L11a.H (L : Int) (j : Int) (l : Int) (n : Nat) (f : Nat → Int) (m : Nat) (g : Nat → Int) (V : Nat) (a15 : Int) (xs : List Int) : AHeap := [AObj.var (AV.int IntKind.i64 L), AObj.var (AV.int IntKind.i64 j), AObj.var (AV.int IntKind.i64 l), AObj.var (ivs m g), AObj.row 1 V (Col.ints IntKind.i64 xs), AObj.var (AV.ms 4 V 1 0 V)]
def L11a.inv (L : Int) (j : Int) (l : Int) (n : Nat) (f : Nat → Int) (m : Nat) (g : Nat → Int) (V : Nat) (a15 : Int) (xs : List Int) : Prop := (-1 ≤ a15 ∧ a15 ≤ L - 1) ∧ xs.length = V
noncomputable def L11a.mu (L : Int) (j : Int) (l : Int) (n : Nat) (f : Nat → Int) (m : Nat) (g : Nat → Int) (V : Nat) (a15 : Int) (xs : List Int) : Nat := (a15 + 1).toNat
noncomputable def L11a.E : L11a.O → Exit
  | .e0 a0 => Exit.exit 0
noncomputable def L11a.X (L : Int) (j : Int) (l : Int) (n : Nat) (f : Nat → Int) (m : Nat) (g : Nat → Int) (V : Nat) : L11a.O → List AV
  | .e0 a0 => mkT 77 [(5, (AV.ptr 0 1 1 0 0)), (6, (AV.ptr 1 1 1 0 0)), (13, (AV.ptr 5 1 1 0 0))]
noncomputable def L11a.XH (L : Int) (j : Int) (l : Int) (n : Nat) (f : Nat → Int) (m : Nat) (g : Nat → Int) (V : Nat) : L11a.O → AHeap
  | .e0 a0 => ((AObj.var (AV.int IntKind.i64 L)) :: ((AObj.var (AV.int IntKind.i64 j)) :: ((AObj.var (AV.int IntKind.i64 l)) :: ((AObj.var (AV.sl 1 m fun (i : Nat) => AV.int IntKind.i64 (g i))) :: ((AObj.row 1 (V) (Col.ints IntKind.i64 a0)) :: ([AObj.var (AV.ms 4 V 1 0 V)]))))))
noncomputable def L11a.N (L : Int) (j : Int) (l : Int) (n : Nat) (f : Nat → Int) (m : Nat) (g : Nat → Int) : Nat → Int → (List Int) → L11a.O
  | 0, _, xs => .e0 xs
  | k_ + 1, a15, xs => (bif decide (a15 ≥ 0) then (match L11ab.run L j l n f m g a15 0 xs with | .e0 h2d0 => (L11a.N L j l n f m g k_ (IntKind.i64.wrap (a15 - 1)) (h2d0)) ) else (.e0 (xs)))
noncomputable def L11a.run (L : Int) (j : Int) (l : Int) (n : Nat) (f : Nat → Int) (m : Nat) (g : Nat → Int) (a15 : Int) (xs : List Int) : L11a.O := L11a.N L j l n f m g (((a15 + 1).toNat) + 1) a15 xs
def L11a.Next (L : Int) (j : Int) (l : Int) (n : Nat) (f : Nat → Int) (m : Nat) (g : Nat → Int) (V : Nat) (k_ : Nat) (z_ : Int × (List Int)) (T_ : List AV) (h_ : AHeap) : Prop := LNextP (fun (z_ : Int × (List Int)) => L11a.T L j l n f m g V z_.1 z_.2) (fun (z_ : Int × (List Int)) => L11a.H L j l n f m g V z_.1 z_.2) (fun (z_ : Int × (List Int)) => L11a.inv L j l n f m g V z_.1 z_.2) (fun (z_ : Int × (List Int)) => L11a.mu L j l n f m g V z_.1 z_.2) (fun (k_ : Nat) (z_ : Int × (List Int)) => L11a.N L j l n f m g k_ z_.1 z_.2) k_ z_ T_ h_
def L11a.End (L : Int) (j : Int) (l : Int) (n : Nat) (f : Nat → Int) (m : Nat) (g : Nat → Int) (V : Nat) (k_ : Nat) (z_ : Int × (List Int)) (e_ : Exit) (T_ : List AV) (h_ : AHeap) : Prop := LEndP (fun (z_ : Int × (List Int)) => L11a.H L j l n f m g V z_.1 z_.2) (fun (k_ : Nat) (z_ : Int × (List Int)) => L11a.N L j l n f m g k_ z_.1 z_.2) L11a.E (L11a.X L j l n f m g V) (L11a.XH L j l n f m g V) k_ z_ e_ T_ h_
theorem L11a.nx (L : Int) (j : Int) (l : Int) (n : Nat) (f : Nat → Int) (m : Nat) (g : Nat → Int) (V : Nat) {k_ : Nat} {z_ : Int × (List Int)} {h_ : AHeap} (s_ : Int × (List Int)) (h1 : L11a.inv L j l n f m g V s_.1 s_.2) (h2 : L11a.mu L j l n f m g V s_.1 s_.2 < L11a.mu L j l n f m g V z_.1 z_.2) (h3 : L11a.N L j l n f m g k_ s_.1 s_.2 = L11a.N L j l n f m g (k_ + 1) z_.1 z_.2) (h4 : PopOk (L11a.H L j l n f m g V z_.1 z_.2) h_ (L11a.T L j l n f m g V s_.1 s_.2) (L11a.H L j l n f m g V s_.1 s_.2)) : LNextP (fun (z_ : Int × (List Int)) => L11a.T L j l n f m g V z_.1 z_.2) (fun (z_ : Int × (List Int)) => L11a.H L j l n f m g V z_.1 z_.2) (fun (z_ : Int × (List Int)) => L11a.inv L j l n f m g V z_.1 z_.2) (fun (z_ : Int × (List Int)) => L11a.mu L j l n f m g V z_.1 z_.2) (fun (k_ : Nat) (z_ : Int × (List Int)) => L11a.N L j l n f m g k_ z_.1 z_.2) k_ z_ (L11a.T L j l n f m g V s_.1 s_.2) h_ := LNextP.mk (Tm := (fun (z_ : Int × (List Int)) => L11a.T L j l n f m g V z_.1 z_.2)) (Hp := (fun (z_ : Int × (List Int)) => L11a.H L j l n f m g V z_.1 z_.2)) (inv := (fun (z_ : Int × (List Int)) => L11a.inv L j l n f m g V z_.1 z_.2)) (mu := (fun (z_ : Int × (List Int)) => L11a.mu L j l n f m g V z_.1 z_.2)) (l := (fun (k_ : Nat) (z_ : Int × (List Int)) => L11a.N L j l n f m g k_ z_.1 z_.2)) s_ h1 h2 h3 h4
theorem L11a.en (L : Int) (j : Int) (l : Int) (n : Nat) (f : Nat → Int) (m : Nat) (g : Nat → Int) (V : Nat) {k_ : Nat} {z_ : Int × (List Int)} {h_ : AHeap} (o_ : L11a.O) (h3 : L11a.N L j l n f m g (k_ + 1) z_.1 z_.2 = o_) (h4 : PopOk (L11a.H L j l n f m g V z_.1 z_.2) h_ (L11a.X L j l n f m g V o_) (L11a.XH L j l n f m g V o_)) : LEndP (fun (z_ : Int × (List Int)) => L11a.H L j l n f m g V z_.1 z_.2) (fun (k_ : Nat) (z_ : Int × (List Int)) => L11a.N L j l n f m g k_ z_.1 z_.2) L11a.E (L11a.X L j l n f m g V) (L11a.XH L j l n f m g V) k_ z_ (L11a.E o_) (L11a.X L j l n f m g V o_) h_ := LEndP.mk (Hp := (fun (z_ : Int × (List Int)) => L11a.H L j l n f m g V z_.1 z_.2)) (l := (fun (k_ : Nat) (z_ : Int × (List Int)) => L11a.N L j l n f m g k_ z_.1 z_.2)) (oE := L11a.E) (oT := L11a.X L j l n f m g V) (oH := L11a.XH L j l n f m g V) o_ h3 h4
theorem L11a.spec (L : Int) (j : Int) (l : Int) (n : Nat) (f : Nat → Int) (hn : n ≤ 9223372036854775807) (m : Nat) (g : Nat → Int) (hm : m ≤ 9223372036854775807) (hk : LOk L j l n f m g) (V : Nat) (hV2 : V = (L + 1).toNat) (k_ : Nat) (z_ : Int × (List Int)) (hi_ : L11a.inv L j l n f m g V z_.1 z_.2) (hm_ : L11a.mu L j l n f m g V z_.1 z_.2 < k_) : LoopTo Try.prog (loopN Try.f11 0) (L11a.T L j l n f m g V z_.1 z_.2) (L11a.H L j l n f m g V z_.1 z_.2) (L11a.E (L11a.N L j l n f m g k_ z_.1 z_.2)) (L11a.X L j l n f m g V (L11a.N L j l n f m g k_ z_.1 z_.2)) (L11a.XH L j l n f m g V (L11a.N L j l n f m g k_ z_.1 z_.2)) := by
  refine LoopTo.fuelP mix (fun (z_ : Int × (List Int)) => L11a.T L j l n f m g V z_.1 z_.2) (fun (z_ : Int × (List Int)) => L11a.H L j l n f m g V z_.1 z_.2) (fun (z_ : Int × (List Int)) => L11a.inv L j l n f m g V z_.1 z_.2) (fun (z_ : Int × (List Int)) => L11a.mu L j l n f m g V z_.1 z_.2) (fun (k_ : Nat) (z_ : Int × (List Int)) => L11a.N L j l n f m g k_ z_.1 z_.2) L11a.E (L11a.X L j l n f m g V) (L11a.XH L j l n f m g V) (others 77 [3, 5, 6, 13, 14, 15]) (others 77 [10, 11]) (others 77 [5, 6, 13]) ?_ k_ z_ hi_ hm_
  clear hm_ hi_ z_ k_
  intro k_ z_ hinv hmu
  obtain ⟨a15, xs⟩ := z_
  have hinv : (-1 ≤ a15 ∧ a15 ≤ L - 1) ∧ xs.length = V := hinv
  have hmu : ((a15 + 1).toNat) < k_ + 1 := hmu
  cases h1 : decide (a15 ≥ 0) with
  | true =>
    have h1p := of_decide_eq_true h1
    try have := bd_len (by first | assumption | omega)
    try have := bd_sz (by first | assumption | omega) (by first | assumption | omega) (by first | assumption | omega)
    try have := L11ab.leqR0_0 _ _ _ _ _ _ _ _ (by assumption); (try simp only [List.length_replicate] at this)
    have o0 : n ≤ (9223372036854775807 : Nat) := by first | assumption | omega | (simp_all; done)
    have o1 : m ≤ (9223372036854775807 : Nat) := by first | assumption | omega | (simp_all; done)
    have o2 : LOk L j l n f m g := by first | assumption | (simp_all; done)
    have o3 : V = (L + (1 : Int)).toNat := by first | assumption | omega | (simp_all; done)
    have o4 : (0 : Int) ≤ a15 := by first | assumption | omega | (simp_all; done)
    have o5 : a15 ≤ L - (1 : Int) := by first | assumption | omega | (simp_all; done)
    have o6 : (0 : Int) ≤ (↑n : Int) := by first | assumption | omega | (simp_all; done)
    have o7 : xs.length = V := by first | assumption | omega | (simp only [List.length_append, List.length_cons, List.length_nil, List.length_map]; omega) | (simp_all; done)
    cases h2 : L11ab.run L j l n f m g a15 0 xs with
    | e0 h2d0 =>
      try have := bd_len (by first | assumption | omega)
      try have := bd_sz (by first | assumption | omega) (by first | assumption | omega) (by first | assumption | omega)
      try have := L11ab.leqR0_0 _ _ _ _ _ _ _ _ (by assumption); (try simp only [List.length_replicate] at this)
      try have := IntWalk.i64_in (a15 - 1) (by omega)
      have o8 : (-1 : Int) ≤ IntKind.i64.wrap (a15 - (1 : Int)) := by first | assumption | omega | (simp_all; done)
      have o9 : IntKind.i64.wrap (a15 - (1 : Int)) ≤ L - (1 : Int) := by first | assumption | omega | (simp_all; done)
      have o10 : h2d0.length = V := by first | assumption | omega | (simp only [List.length_append, List.length_cons, List.length_nil, List.length_map]; omega) | (simp_all; done)
      have o11 : (IntKind.i64.wrap (a15 - (1 : Int)) + (1 : Int)).toNat < (a15 + (1 : Int)).toNat := by first | assumption | omega | (simp_all; done)
      exact ⟨[.b true, .loop (others 77 [3, 5, 6, 13, 14, 15, 39, 40, 41]) (Exit.exit 2) (L11ab.X L j l n f m g V a15 (L11ab.O.e0 h2d0)) (L11ab.XH L j l n f m g V a15 (L11ab.O.e0 h2d0))], kmp (by kernel_rfl) (And.intro h1 (And.intro (L11ab.e0 (L) (j) (l) (n) (f) o0 (m) (g) o1 o2 (V) o3 (a15) o4 o5 (0) (xs) (And.intro (And.intro (show (0 : Int) ≤ (0 : Int) by first | decide | exact Int.NonNeg.mk _) o6) o7) h2d0 h2) (L11a.nx L j l n f m g V (k_ := k_) (z_ := (a15, xs)) ((IntKind.i64.wrap (a15 - 1), h2d0)) (And.intro (And.intro o8 o9) o10) o11 (by first | (simp only [L11a.N, h1, h2, cond_true, cond_false]; done) | (try unfold L11a.N; try simp only [h1, cond_true, cond_false]; try simp only [h2, cond_true, cond_false]; try rfl; done)) PopOk.same)))⟩
  | false =>
    have h1p := of_decide_eq_false h1
    exact ⟨[.b false], kmp (by kernel_rfl) (And.intro h1 (L11a.en L j l n f m g V (k_ := k_) (z_ := (a15, xs)) (.e0 (xs) : L11a.O) (by first | (simp only [L11a.N, h1, cond_true, cond_false]; done) | (try unfold L11a.N; try simp only [h1, cond_true, cond_false]; try rfl; done)) PopOk.same))⟩
theorem L11a.e0 (L : Int) (j : Int) (l : Int) (n : Nat) (f : Nat → Int) (hn : n ≤ 9223372036854775807) (m : Nat) (g : Nat → Int) (hm : m ≤ 9223372036854775807) (hk : LOk L j l n f m g) (V : Nat) (hV2 : V = (L + 1).toNat) (a15 : Int) (xs : List Int) (hinv : L11a.inv L j l n f m g V a15 xs) (a0 : List Int) (hN : L11a.run L j l n f m g a15 xs = (.e0 a0 : L11a.O)) : LoopTo Try.prog (loopN Try.f11 0) (L11a.T L j l n f m g V a15 xs) (L11a.H L j l n f m g V a15 xs) (Exit.exit 0) (L11a.X L j l n f m g V (.e0 a0 : L11a.O)) (L11a.XH L j l n f m g V (.e0 a0 : L11a.O)) := by
  have h_ := L11a.spec L j l n f hn m g hm hk V hV2 (((a15 + 1).toNat) + 1) (a15, xs) hinv (Nat.lt_succ_self _)
  unfold L11a.run at hN
  simp only [hN] at h_
  exact h_
theorem L11a.leq0_0 (L : Int) (j : Int) (l : Int) (n : Nat) (f : Nat → Int) (m : Nat) (g : Nat → Int) : ∀ (m_ : Nat) (a15 : Int) (xs : List Int) (a0_ : List Int), L11a.N L j l n f m g m_ a15 xs = (.e0 a0_ : L11a.O) → (a0_).length = (xs).length := by
  intro m_
  induction m_ with
  | zero =>
    intro a15 xs a0_ h_
    simp only [L11a.N] at h_
    cases h_
    try rfl
  | succ m_ ih_ =>
    intro a15 xs a0_ h_
    cases h1 : decide (a15 ≥ 0) with
    | true =>
      have h1p := of_decide_eq_true h1
      cases h2 : L11ab.run L j l n f m g a15 0 xs with
      | e0 h2d0 =>
        (simp only [L11a.N, h1, h2, cond_true, cond_false] at h_; first | (have q_ := ih_ _ _ _ h_; (try have := L11ab.leqR0_0 _ _ _ _ _ _ _ _ (by assumption); (try simp only [List.length_replicate] at this)); (try simp only [List.length_set] at *); omega) | (cases h_; done) | (cases h_; first | rfl | simp))
    | false =>
      have h1p := of_decide_eq_false h1
      (simp only [L11a.N, h1, cond_true, cond_false] at h_; first | (have q_ := ih_ _ _ _ h_; (try have := L11ab.leqR0_0 _ _ _ _ _ _ _ _ (by assumption); (try simp only [List.length_replicate] at this)); (try simp only [List.length_set] at *); omega) | (cases h_; done) | (cases h_; first | rfl | simp))
theorem L11a.leqR0_0 (L : Int) (j : Int) (l : Int) (n : Nat) (f : Nat → Int) (m : Nat) (g : Nat → Int) {a15 : Int} {xs : List Int} {a0_ : List Int} (h_ : L11a.run L j l n f m g a15 xs = (.e0 a0_ : L11a.O)) : (a0_).length = (xs).length := L11a.leq0_0 L j l n f m g _ a15 xs a0_ h_

end Go.Proofs.Ytjdbmmilcihpoaa

/- Plain laws: the first stones that Layout finds. Conditions: none. -/
open Go
namespace Go.Proofs.Ytjdbmmilcihpoaa
set_option linter.unusedVariables false
set_option linter.unusedSimpArgs false
variable {L j l : Int} {n m k : Nat} {f g s : Nat → Int} {xs : List Int}

/-- A stone of a size may begin at a position. -/
noncomputable def goX (L j l : Int) (m : Nat) (g : Nat → Int) (xs : List Int) (t : Nat) (s : Int) : Bool :=
  decide ((t : Int) + s = L) || (decide ((t : Int) + s + j < L) && (decide (xs.getD ((t : Int) + s + j).toNat 0 > 0) && r34.v ((t : Int) + s) j l m g))
theorem r33_eq (hj0 : 0 ≤ j) (hj : j ≤ 1000) {t : Nat} (ht : t ≤ 20000) {s : Int} (h1 : 1 ≤ s) (h2 : s ≤ 20000) : r33.v L j l m g xs t s = goX L j l m g xs t s := by
  unfold r33.v goX
  simp only [i64_small (x := (t : Int) + s) (by omega), i64_small (x := (t : Int) + s + j) (by omega), Nat.zero_add]
  have e : ((t : Int) + s == L) = decide ((t : Int) + s = L) := rfl
  rw [e]
  cases decide ((t : Int) + s = L) <;> cases decide ((t : Int) + s + j < L) <;> cases decide (xs.getD ((t : Int) + s + j).toNat 0 > 0) <;> rfl
theorem goX_set {c t : Nat} {v s : Int} (hc : c ≤ t) (h1 : 1 ≤ s) (hj : 0 ≤ j) : goX L j l m g (xs.set c v) t s = goX L j l m g xs t s := by
  unfold goX
  have e : (xs.set c v).getD ((t : Int) + s + j).toNat 0 = xs.getD ((t : Int) + s + j).toNat 0 := by
    rw [List.getD_eq_getElem?_getD, List.getD_eq_getElem?_getD, List.getElem?_set, if_neg (by omega)]
  rw [e]

/-- The first size that will do. -/
def fs (P : Int → Bool) (f : Nat → Int) (b : Nat) : Nat → Int
  | 0 => 0
  | c + 1 => bif P (f b) then f b else fs P f (b + 1) c
theorem fs_cases (P : Int → Bool) (f : Nat → Int) : ∀ c b, (fs P f b c = 0 ∧ ∀ i, b ≤ i → i < b + c → P (f i) = false) ∨ ∃ i, b ≤ i ∧ i < b + c ∧ fs P f b c = f i ∧ P (f i) = true ∧ ∀ i', b ≤ i' → i' < i → P (f i') = false := by
  intro c
  induction c with
  | zero => intro b; exact .inl ⟨rfl, fun i h1 h2 => by omega⟩
  | succ c ih =>
    intro b
    cases hp : P (f b) with
    | true => exact .inr ⟨b, Nat.le_refl _, by omega, by simp [fs, hp], hp, fun i' h1 h2 => by omega⟩
    | false =>
      have e : fs P f b (c + 1) = fs P f (b + 1) c := by simp [fs, hp]
      rcases ih (b + 1) with ⟨a1, a2⟩ | ⟨i, a1, a2, a3, a4, a5⟩
      · refine .inl ⟨e.trans a1, fun i h1 h2 => ?_⟩
        by_cases e2 : i = b
        · rw [e2]; exact hp
        · exact a2 i (by omega) (by omega)
      · refine .inr ⟨i, by omega, by omega, e.trans a3, a4, fun i' h1 h2 => ?_⟩
        by_cases e2 : i' = b
        · rw [e2]; exact hp
        · exact a5 i' (by omega) h2
theorem fs_congr {P Q : Int → Bool} {f : Nat → Int} : ∀ c b, (∀ i, b ≤ i → i < b + c → P (f i) = Q (f i)) → fs P f b c = fs Q f b c := by
  intro c
  induction c with
  | zero => intro b _; rfl
  | succ c ih =>
    intro b h
    simp only [fs, h b (Nat.le_refl _) (by omega), ih (b + 1) fun i h1 h2 => h i (by omega) (by omega)]

theorem set_zero {c : Nat} (h : xs.getD c 0 = 0) : xs.set c 0 = xs := by
  apply List.ext_getElem?
  intro t
  rw [List.getElem?_set]
  split
  · next e =>
    subst e
    rw [List.getD_eq_getElem?_getD] at h
    cases q : xs[c]? with
    | none =>
      rw [if_neg]
      intro hc
      rw [List.getElem?_eq_getElem hc] at q; cases q
    | some b =>
      rw [q] at h
      have hi := (List.getElem?_eq_some_iff.1 q).1
      rw [if_pos hi]
      simp only [Option.getD_some] at h
      rw [h]
  · rfl
theorem getD_set {c t : Nat} {v : Int} (hc : c < xs.length) : (xs.set c v).getD t 0 = if t = c then v else xs.getD t 0 := by
  rw [List.getD_eq_getElem?_getD, List.getD_eq_getElem?_getD, List.getElem?_set]
  by_cases e : c = t
  · subst e; rw [if_pos rfl, if_pos hc, if_pos rfl]; rfl
  · rw [if_neg e, if_neg fun h => e h.symm]

theorem L11b_run (h : LOk L j l n f m g) {t : Nat} (ht : t ≤ 20000) (hz : xs.getD t 0 = 0) : ∀ q b, b ≤ n → n - b < q →
    L11ab.N L j l n f m g t q (b : Int) xs = .e0 (xs.set t (fs (goX L j l m g xs t) f b (n - b))) := by
  have hn := h.n2
  intro q
  induction q with
  | zero => intro b _ h; omega
  | succ q ih =>
    intro b hb hq
    simp only [L11ab.N, Int.toNat_natCast, Nat.zero_add]
    by_cases hlt : b < n
    · rw [decide_eq_true (show (b : Int) < n by omega), wrap_succ (n := n) (by omega) hlt, r33_eq h.j1 h.j2 ht (h.f1 b hlt) (h.f2 b hlt), show n - b = (n - (b + 1)) + 1 by omega]
      simp only [cond_true, fs]
      cases goX L j l m g xs t (f b) with
      | true => rfl
      | false => simp only [cond_false]; exact ih (b + 1) hlt (by omega)
    · rw [decide_eq_false (by omega), show n - b = 0 by omega]
      show L11ab.O.e0 xs = .e0 (xs.set t 0)
      rw [set_zero hz]

/-- What the table of first sizes holds. -/
structure FOk (L j l : Int) (n : Nat) (f : Nat → Int) (m : Nat) (g : Nat → Int) (xs : List Int) : Prop where
  len : xs.length = (L + 1).toNat
  val : ∀ t : Nat, (t : Int) < L → xs.getD t 0 = fs (goX L j l m g xs t) f 0 n

theorem L11_run (h : LOk L j l n f m g) : ∀ (q c : Nat) (xs : List Int), (c : Int) ≤ L → c < q → xs.length = (L + 1).toNat → (∀ t, t < c → xs.getD t 0 = 0) → (∀ t : Nat, c ≤ t → (t : Int) < L → xs.getD t 0 = fs (goX L j l m g xs t) f 0 n) →
    ∃ xs', L11a.N L j l n f m g q ((c : Int) - 1) xs = .e0 xs' ∧ FOk L j l n f m g xs' := by
  have hl1 := h.l1
  have hl2 := h.l2
  intro q
  induction q with
  | zero => intro c xs _ h; omega
  | succ q ih =>
    intro c xs hc hq hl hz hv
    simp only [L11a.N]
    cases c with
    | zero =>
      rw [decide_eq_false (by omega)]
      exact ⟨xs, rfl, hl, fun t ht => hv t (Nat.zero_le _) ht⟩
    | succ c =>
      rw [show ((c + 1 : Nat) : Int) - 1 = (c : Int) by omega, decide_eq_true (show (c : Int) ≥ 0 by omega)]
      have e : L11ab.run L j l n f m g (c : Int) 0 xs = .e0 (xs.set c (fs (goX L j l m g xs c) f 0 n)) := by
        have := L11b_run (xs := xs) h (t := c) (by omega) (hz c (by omega)) (((n : Int) - 0).toNat + 1) 0 (Nat.zero_le _) (by omega)
        exact this
      rw [e, i64_small (x := (c : Int) - 1) (by omega)]
      simp only [cond_true]
      have hlen : c < xs.length := by omega
      have gs : ∀ t, c ≤ t → fs (goX L j l m g (xs.set c (fs (goX L j l m g xs c) f 0 n)) t) f 0 n = fs (goX L j l m g xs t) f 0 n := fun t ht =>
        fs_congr n 0 fun i _ hi => goX_set ht (h.f1 i (by omega)) h.j1
      refine ih c _ (by omega) (by omega) (by rw [List.length_set]; exact hl) (fun t ht => ?_) (fun t h1 h2 => ?_)
      · rw [getD_set hlen, if_neg (by omega)]; exact hz t (by omega)
      · rw [getD_set hlen, gs t h1]
        by_cases e2 : t = c
        · rw [if_pos e2, e2]
        · rw [if_neg e2]; exact hv t (by omega) h2

theorem fok (h : LOk L j l n f m g) : ∃ xs, L11a.run L j l n f m g (L - 1) (List.replicate (L + 1).toNat 0) = .e0 xs ∧ FOk L j l n f m g xs := by
  have hl1 := h.l1
  have hl2 := h.l2
  obtain ⟨xs, e, hf⟩ := L11_run h ((L - 1 + 1).toNat + 1) L.toNat (List.replicate (L + 1).toNat 0) (by omega) (by omega) (by simp) (fun t _ => by simp [List.getD_eq_getElem?_getD, List.getElem?_replicate]; split <;> rfl) (fun t h1 h2 => by omega)
  refine ⟨xs, ?_, hf⟩
  have e1 : L11a.run L j l n f m g (L - 1) (List.replicate (L + 1).toNat 0) = L11a.N L j l n f m g ((L - 1 + 1).toNat + 1) (L - 1) (List.replicate (L + 1).toNat 0) := rfl
  rw [e1]
  rw [show ((L.toNat : Nat) : Int) - 1 = L - 1 by omega] at e
  exact e
theorem bd_fok (h : LOk L j l n f m g) (e : L11a.run L j l n f m g (IntKind.i64.wrap (L - 1)) (List.replicate (IntKind.i64.wrap (L + 1)).toNat 0) = .e0 xs) : FOk L j l n f m g xs ∧ xs.length = (L + 1).toNat := by
  obtain ⟨xs', e', hf⟩ := fok h
  have hl1 := h.l1
  have hl2 := h.l2
  rw [i64_small (by omega), i64_small (by omega), e'] at e
  cases e
  exact ⟨hf, hf.len⟩

/-- Where a stone may begin, one goes on. -/
theorem FOk.step (h : LOk L j l n f m g) (hf : FOk L j l n f m g xs) {t : Nat} (ht : (t : Int) < L) :
    xs.getD t 0 = 0 ∨ (1 ≤ xs.getD t 0 ∧ xs.getD t 0 ≤ 20000 ∧ goX L j l m g xs t (xs.getD t 0) = true) := by
  rcases fs_cases (goX L j l m g xs t) f n 0 with ⟨a1, _⟩ | ⟨i, a1, a2, a3, a4, _⟩
  · exact .inl ((hf.val t ht).trans a1)
  · right
    rw [hf.val t ht, a3]
    exact ⟨h.f1 i (by omega), h.f2 i (by omega), a4⟩
theorem bd_go (hf : FOk L j l n f m g xs) (h : LOk L j l n f m g) {a : Int} (h1 : a < L) (h0 : 0 ≤ a) (hx : a ≥ L ∨ xs.getD (0 + a.toNat) 0 > 0) :
    (1 ≤ xs.getD (0 + a.toNat) 0 ∧ xs.getD (0 + a.toNat) 0 ≤ 20000) ∧ (IntKind.i64.wrap (a + IntKind.i64.wrap (xs.getD (0 + a.toNat) 0 + j)) = a + (xs.getD (0 + a.toNat) 0 + j)) ∧
    (a + (xs.getD (0 + a.toNat) 0 + j) ≥ L ∨ xs.getD (0 + (a + (xs.getD (0 + a.toNat) 0 + j)).toNat) 0 > 0) := by
  simp only [Nat.zero_add] at *
  obtain ⟨t, rfl⟩ := Int.eq_ofNat_of_zero_le h0
  simp only [Int.toNat_natCast] at *
  have hl2 := h.l2
  have hj1 := h.j1
  have hj2 := h.j2
  rcases hf.step h h1 with e | ⟨b1, b2, b3⟩
  · omega
  · refine ⟨⟨b1, b2⟩, by rw [i64_small (x := xs.getD t 0 + j) (by omega), i64_small (by omega)], ?_⟩
    unfold goX at b3
    simp only [Bool.or_eq_true, Bool.and_eq_true, decide_eq_true_eq] at b3
    rcases b3 with q | ⟨q1, q2, _⟩
    · exact .inl (by omega)
    · right
      rw [show (t : Int) + (xs.getD t 0 + j) = (t : Int) + xs.getD t 0 + j by omega]
      exact q2
end Go.Proofs.Ytjdbmmilcihpoaa

/- the wall seat's contracts: Layout. -/
open Go
namespace Go.Proofs.Ytjdbmmilcihpoaa
set_option linter.unusedSimpArgs false
set_option linter.unusedVariables false
set_option maxHeartbeats 0
set_option maxRecDepth 100000
inductive L11c.O where
  | e0 (a0 : Nat) (a1 : List Int)
noncomputable def L11c.T (L : Int) (j : Int) (l : Int) (n : Nat) (f : Nat → Int) (m : Nat) (g : Nat → Int) (V : Nat) (xs : List Int) (a19 : Int) (v18 : Nat) (al : List Int) : List AV := mkT 77 [(5, AV.ptr 0 1 1 0 0), (6, AV.ptr 1 1 1 0 0), (13, AV.ptr 5 1 1 0 0), (18, AV.ms 6 v18 1 0 al.length), (19, AV.int IntKind.i64 a19)]
noncomputable def L11c.H (L : Int) (j : Int) (l : Int) (n : Nat) (f : Nat → Int) (m : Nat) (g : Nat → Int) (V : Nat) (xs : List Int) (a19 : Int) (v18 : Nat) (al : List Int) : AHeap := [AObj.var (AV.int IntKind.i64 L), AObj.var (AV.int IntKind.i64 j), AObj.var (AV.int IntKind.i64 l), AObj.var (ivs m g), AObj.row 1 V (Col.ints IntKind.i64 xs), AObj.var (AV.ms 4 V 1 0 V), AObj.row 1 v18 (Col.ints IntKind.i64 al)]
def L11c.inv (L : Int) (j : Int) (l : Int) (n : Nat) (f : Nat → Int) (m : Nat) (g : Nat → Int) (V : Nat) (xs : List Int) (a19 : Int) (v18 : Nat) (al : List Int) : Prop := (0 ≤ a19 ∧ a19 ≤ 41000) ∧ (a19 ≥ L ∨ xs.getD (0 + a19.toNat) 0 > 0) ∧ (↑al.length : Int) ≤ a19
noncomputable def L11c.mu (L : Int) (j : Int) (l : Int) (n : Nat) (f : Nat → Int) (m : Nat) (g : Nat → Int) (V : Nat) (xs : List Int) (a19 : Int) (v18 : Nat) (al : List Int) : Nat := (L - a19).toNat
noncomputable def L11c.E : L11c.O → Exit
  | .e0 a0 a1 => Exit.exit 4
noncomputable def L11c.X (L : Int) (j : Int) (l : Int) (n : Nat) (f : Nat → Int) (m : Nat) (g : Nat → Int) (V : Nat) (xs : List Int) : L11c.O → List AV
  | .e0 a0 a1 => mkT 77 [(18, (AV.ms 6 a0 1 0 (List.length a1)))]
noncomputable def L11c.XH (L : Int) (j : Int) (l : Int) (n : Nat) (f : Nat → Int) (m : Nat) (g : Nat → Int) (V : Nat) (xs : List Int) : L11c.O → AHeap
  | .e0 a0 a1 => ((AObj.var (AV.int IntKind.i64 L)) :: ((AObj.var (AV.int IntKind.i64 j)) :: ((AObj.var (AV.int IntKind.i64 l)) :: ((AObj.var (AV.sl 1 m fun (i : Nat) => AV.int IntKind.i64 (g i))) :: ((AObj.row 1 V (Col.ints IntKind.i64 xs)) :: ((AObj.var (AV.ms 4 V 1 0 V)) :: ((AObj.row 1 a0 (Col.ints IntKind.i64 a1)) :: ([]))))))))
noncomputable def L11c.N (L : Int) (j : Int) (xs : List Int) : Nat → Int → Nat → (List Int) → L11c.O
  | 0, _, v18, al => .e0 v18 al
  | k_ + 1, a19, v18, al => (bif decide (a19 < L) then (L11c.N L j xs k_ (IntKind.i64.wrap (a19 + IntKind.i64.wrap (xs.getD (0 + a19.toNat) 0 + j))) (v18 + 1) (al ++ [xs.getD (0 + a19.toNat) 0])) else (.e0 (v18) (al)))
noncomputable def L11c.run (L : Int) (j : Int) (xs : List Int) (a19 : Int) (v18 : Nat) (al : List Int) : L11c.O := L11c.N L j xs (((L - a19).toNat) + 1) a19 v18 al
def L11c.Next (L : Int) (j : Int) (l : Int) (n : Nat) (f : Nat → Int) (m : Nat) (g : Nat → Int) (V : Nat) (xs : List Int) (k_ : Nat) (z_ : Int × Nat × (List Int)) (T_ : List AV) (h_ : AHeap) : Prop := LNextP (fun (z_ : Int × Nat × (List Int)) => L11c.T L j l n f m g V xs z_.1 z_.2.1 z_.2.2) (fun (z_ : Int × Nat × (List Int)) => L11c.H L j l n f m g V xs z_.1 z_.2.1 z_.2.2) (fun (z_ : Int × Nat × (List Int)) => L11c.inv L j l n f m g V xs z_.1 z_.2.1 z_.2.2) (fun (z_ : Int × Nat × (List Int)) => L11c.mu L j l n f m g V xs z_.1 z_.2.1 z_.2.2) (fun (k_ : Nat) (z_ : Int × Nat × (List Int)) => L11c.N L j xs k_ z_.1 z_.2.1 z_.2.2) k_ z_ T_ h_
def L11c.End (L : Int) (j : Int) (l : Int) (n : Nat) (f : Nat → Int) (m : Nat) (g : Nat → Int) (V : Nat) (xs : List Int) (k_ : Nat) (z_ : Int × Nat × (List Int)) (e_ : Exit) (T_ : List AV) (h_ : AHeap) : Prop := LEndP (fun (z_ : Int × Nat × (List Int)) => L11c.H L j l n f m g V xs z_.1 z_.2.1 z_.2.2) (fun (k_ : Nat) (z_ : Int × Nat × (List Int)) => L11c.N L j xs k_ z_.1 z_.2.1 z_.2.2) L11c.E (L11c.X L j l n f m g V xs) (L11c.XH L j l n f m g V xs) k_ z_ e_ T_ h_
theorem L11c.nx (L : Int) (j : Int) (l : Int) (n : Nat) (f : Nat → Int) (m : Nat) (g : Nat → Int) (V : Nat) (xs : List Int) {k_ : Nat} {z_ : Int × Nat × (List Int)} {h_ : AHeap} (s_ : Int × Nat × (List Int)) (h1 : L11c.inv L j l n f m g V xs s_.1 s_.2.1 s_.2.2) (h2 : L11c.mu L j l n f m g V xs s_.1 s_.2.1 s_.2.2 < L11c.mu L j l n f m g V xs z_.1 z_.2.1 z_.2.2) (h3 : L11c.N L j xs k_ s_.1 s_.2.1 s_.2.2 = L11c.N L j xs (k_ + 1) z_.1 z_.2.1 z_.2.2) (h4 : PopOk (L11c.H L j l n f m g V xs z_.1 z_.2.1 z_.2.2) h_ (L11c.T L j l n f m g V xs s_.1 s_.2.1 s_.2.2) (L11c.H L j l n f m g V xs s_.1 s_.2.1 s_.2.2)) : LNextP (fun (z_ : Int × Nat × (List Int)) => L11c.T L j l n f m g V xs z_.1 z_.2.1 z_.2.2) (fun (z_ : Int × Nat × (List Int)) => L11c.H L j l n f m g V xs z_.1 z_.2.1 z_.2.2) (fun (z_ : Int × Nat × (List Int)) => L11c.inv L j l n f m g V xs z_.1 z_.2.1 z_.2.2) (fun (z_ : Int × Nat × (List Int)) => L11c.mu L j l n f m g V xs z_.1 z_.2.1 z_.2.2) (fun (k_ : Nat) (z_ : Int × Nat × (List Int)) => L11c.N L j xs k_ z_.1 z_.2.1 z_.2.2) k_ z_ (L11c.T L j l n f m g V xs s_.1 s_.2.1 s_.2.2) h_ := LNextP.mk (Tm := (fun (z_ : Int × Nat × (List Int)) => L11c.T L j l n f m g V xs z_.1 z_.2.1 z_.2.2)) (Hp := (fun (z_ : Int × Nat × (List Int)) => L11c.H L j l n f m g V xs z_.1 z_.2.1 z_.2.2)) (inv := (fun (z_ : Int × Nat × (List Int)) => L11c.inv L j l n f m g V xs z_.1 z_.2.1 z_.2.2)) (mu := (fun (z_ : Int × Nat × (List Int)) => L11c.mu L j l n f m g V xs z_.1 z_.2.1 z_.2.2)) (l := (fun (k_ : Nat) (z_ : Int × Nat × (List Int)) => L11c.N L j xs k_ z_.1 z_.2.1 z_.2.2)) s_ h1 h2 h3 h4
theorem L11c.en (L : Int) (j : Int) (l : Int) (n : Nat) (f : Nat → Int) (m : Nat) (g : Nat → Int) (V : Nat) (xs : List Int) {k_ : Nat} {z_ : Int × Nat × (List Int)} {h_ : AHeap} (o_ : L11c.O) (h3 : L11c.N L j xs (k_ + 1) z_.1 z_.2.1 z_.2.2 = o_) (h4 : PopOk (L11c.H L j l n f m g V xs z_.1 z_.2.1 z_.2.2) h_ (L11c.X L j l n f m g V xs o_) (L11c.XH L j l n f m g V xs o_)) : LEndP (fun (z_ : Int × Nat × (List Int)) => L11c.H L j l n f m g V xs z_.1 z_.2.1 z_.2.2) (fun (k_ : Nat) (z_ : Int × Nat × (List Int)) => L11c.N L j xs k_ z_.1 z_.2.1 z_.2.2) L11c.E (L11c.X L j l n f m g V xs) (L11c.XH L j l n f m g V xs) k_ z_ (L11c.E o_) (L11c.X L j l n f m g V xs o_) h_ := LEndP.mk (Hp := (fun (z_ : Int × Nat × (List Int)) => L11c.H L j l n f m g V xs z_.1 z_.2.1 z_.2.2)) (l := (fun (k_ : Nat) (z_ : Int × Nat × (List Int)) => L11c.N L j xs k_ z_.1 z_.2.1 z_.2.2)) (oE := L11c.E) (oT := L11c.X L j l n f m g V xs) (oH := L11c.XH L j l n f m g V xs) o_ h3 h4
theorem L11c.spec (L : Int) (j : Int) (l : Int) (n : Nat) (f : Nat → Int) (hn : n ≤ 9223372036854775807) (m : Nat) (g : Nat → Int) (hm : m ≤ 9223372036854775807) (hk : LOk L j l n f m g) (V : Nat) (xs : List Int) (hf : FOk L j l n f m g xs) (hV : V = (L + 1).toNat) (hV2 : xs.length = (L + 1).toNat) (k_ : Nat) (z_ : Int × Nat × (List Int)) (hi_ : L11c.inv L j l n f m g V xs z_.1 z_.2.1 z_.2.2) (hm_ : L11c.mu L j l n f m g V xs z_.1 z_.2.1 z_.2.2 < k_) : LoopTo Try.prog (loopN Try.f11 2) (L11c.T L j l n f m g V xs z_.1 z_.2.1 z_.2.2) (L11c.H L j l n f m g V xs z_.1 z_.2.1 z_.2.2) (L11c.E (L11c.N L j xs k_ z_.1 z_.2.1 z_.2.2)) (L11c.X L j l n f m g V xs (L11c.N L j xs k_ z_.1 z_.2.1 z_.2.2)) (L11c.XH L j l n f m g V xs (L11c.N L j xs k_ z_.1 z_.2.1 z_.2.2)) := by
  refine LoopTo.fuelP mix (fun (z_ : Int × Nat × (List Int)) => L11c.T L j l n f m g V xs z_.1 z_.2.1 z_.2.2) (fun (z_ : Int × Nat × (List Int)) => L11c.H L j l n f m g V xs z_.1 z_.2.1 z_.2.2) (fun (z_ : Int × Nat × (List Int)) => L11c.inv L j l n f m g V xs z_.1 z_.2.1 z_.2.2) (fun (z_ : Int × Nat × (List Int)) => L11c.mu L j l n f m g V xs z_.1 z_.2.1 z_.2.2) (fun (k_ : Nat) (z_ : Int × Nat × (List Int)) => L11c.N L j xs k_ z_.1 z_.2.1 z_.2.2) L11c.E (L11c.X L j l n f m g V xs) (L11c.XH L j l n f m g V xs) (others 77 [5, 6, 13, 18, 19]) (others 77 [10, 11]) (others 77 [18]) ?_ k_ z_ hi_ hm_
  clear hm_ hi_ z_ k_
  intro k_ z_ hinv hmu
  obtain ⟨a19, v18, al⟩ := z_
  have hinv : (0 ≤ a19 ∧ a19 ≤ 41000) ∧ (a19 ≥ L ∨ xs.getD (0 + a19.toNat) 0 > 0) ∧ (↑al.length : Int) ≤ a19 := hinv
  have hmu : ((L - a19).toNat) < k_ + 1 := hmu
  cases h1 : decide (a19 < L) with
  | true =>
    have h1p := of_decide_eq_true h1
    try have := bd_len (by first | assumption | omega)
    try have := bd_go (by first | assumption | omega) (by first | assumption | omega) (by first | assumption | omega) (by first | assumption | omega) (by first | assumption | omega)
    have o0 : (0 : Int) ≤ a19 := by first | assumption | omega | (simp_all; done)
    have o1 : a19 < (↑V : Int) := by first | assumption | omega | (simp_all; done)
    have o2 : (0 : Nat) + a19.toNat < (Col.ints IntKind.i64 xs).len := by first | assumption | omega | (simp only [List.length_append, List.length_cons, List.length_nil, List.length_map]; omega) | rfl | (exact Nat.le_refl _) | (simp [Col.len]; done) | (simp only [Col.len, zero_bool, zero_int, List.length_replicate, List.length_set] at *; omega) | (simp_all; done)
    have o3 : (al.length + (1 : Nat)) * (8 : Nat) ≤ (140737488355328 : Nat) := by first | assumption | omega | (simp only [List.length_append, List.length_cons, List.length_nil, List.length_map]; omega) | (simp_all; done)
    have o4 : al.length = (Col.ints IntKind.i64 al).len := by first | assumption | omega | (simp only [List.length_append, List.length_cons, List.length_nil, List.length_map]; omega) | rfl | (exact Nat.le_refl _) | (simp [Col.len]; done) | (simp only [Col.len, zero_bool, zero_int, List.length_replicate, List.length_set] at *; omega) | (simp_all; done)
    try have := IntWalk.i64_in (xs.getD (0 + a19.toNat) 0 + j) (by omega)
    try have := IntWalk.i64_in (a19 + IntKind.i64.wrap (xs.getD (0 + a19.toNat) 0 + j)) (by omega)
    have o5 : (0 : Int) ≤ IntKind.i64.wrap (a19 + IntKind.i64.wrap (xs.getD ((0 : Nat) + a19.toNat) (0 : Int) + j)) := by first | assumption | omega | (simp_all; done)
    have o6 : IntKind.i64.wrap (a19 + IntKind.i64.wrap (xs.getD ((0 : Nat) + a19.toNat) (0 : Int) + j)) ≤ (41000 : Int) := by first | assumption | omega | (simp_all; done)
    have o7 : IntKind.i64.wrap (a19 + IntKind.i64.wrap (xs.getD ((0 : Nat) + a19.toNat) (0 : Int) + j)) ≥ L ∨ xs.getD ((0 : Nat) + (IntKind.i64.wrap (a19 + IntKind.i64.wrap (xs.getD ((0 : Nat) + a19.toNat) (0 : Int) + j))).toNat) (0 : Int) > (0 : Int) := by first | assumption | omega | (simp_all; done)
    have o8 : (↑(al ++ [xs.getD ((0 : Nat) + a19.toNat) (0 : Int)]).length : Int) ≤ IntKind.i64.wrap (a19 + IntKind.i64.wrap (xs.getD ((0 : Nat) + a19.toNat) (0 : Int) + j)) := by first | assumption | omega | (simp only [List.length_append, List.length_cons, List.length_nil, List.length_map]; omega) | (simp_all; done)
    have o9 : (L - IntKind.i64.wrap (a19 + IntKind.i64.wrap (xs.getD ((0 : Nat) + a19.toNat) (0 : Int) + j))).toNat < (L - a19).toNat := by first | assumption | omega | (simp_all; done)
    exact ⟨[.b true, .app .one false], kmp (by kernel_rfl) (And.intro h1 (And.intro (And.intro o0 o1) (And.intro (And.intro (rfl : V = V) (And.intro (show (1 : Nat) = (1 : Nat) by first | decide | exact Int.NonNeg.mk _) o2)) (And.intro (And.intro (show (1 : Nat) = (1 : Nat) by first | decide | exact Int.NonNeg.mk _) (And.intro (show AppMode.one.needs 1 fun (a : Nat) => (Col.ofList [AV.int IntKind.i64 (xs.getD (0 + a19.toNat) 0)]).get a by first | exact ⟨rfl, rfl⟩ | simp [AppMode.needs]) (And.intro o3 (And.intro (rfl : v18 = v18) (And.intro (show (0 : Nat) = (0 : Nat) by first | decide | exact Int.NonNeg.mk _) o4))))) (And.intro (And.intro o0 o1) (And.intro (And.intro (rfl : V = V) (And.intro (show (1 : Nat) = (1 : Nat) by first | decide | exact Int.NonNeg.mk _) o2)) (L11c.nx L j l n f m g V xs (k_ := k_) (z_ := (a19, v18, al)) ((IntKind.i64.wrap (a19 + IntKind.i64.wrap (xs.getD (0 + a19.toNat) 0 + j)), v18 + 1, al ++ [xs.getD (0 + a19.toNat) 0])) (And.intro (And.intro o5 o6) (And.intro o7 o8)) o9 (by first | (simp only [L11c.N, h1, cond_true, cond_false]; done) | (try unfold L11c.N; try simp only [h1, cond_true, cond_false]; try rfl; done)) PopOk.same)))))))⟩
  | false =>
    have h1p := of_decide_eq_false h1
    exact ⟨[.b false], kmp (by kernel_rfl) (And.intro h1 (L11c.en L j l n f m g V xs (k_ := k_) (z_ := (a19, v18, al)) (.e0 (v18) (al) : L11c.O) (by first | (simp only [L11c.N, h1, cond_true, cond_false]; done) | (try unfold L11c.N; try simp only [h1, cond_true, cond_false]; try rfl; done)) PopOk.same))⟩
theorem L11c.e0 (L : Int) (j : Int) (l : Int) (n : Nat) (f : Nat → Int) (hn : n ≤ 9223372036854775807) (m : Nat) (g : Nat → Int) (hm : m ≤ 9223372036854775807) (hk : LOk L j l n f m g) (V : Nat) (xs : List Int) (hf : FOk L j l n f m g xs) (hV : V = (L + 1).toNat) (hV2 : xs.length = (L + 1).toNat) (a19 : Int) (v18 : Nat) (al : List Int) (hinv : L11c.inv L j l n f m g V xs a19 v18 al) (a0 : Nat) (a1 : List Int) (hN : L11c.run L j xs a19 v18 al = (.e0 a0 a1 : L11c.O)) : LoopTo Try.prog (loopN Try.f11 2) (L11c.T L j l n f m g V xs a19 v18 al) (L11c.H L j l n f m g V xs a19 v18 al) (Exit.exit 4) (L11c.X L j l n f m g V xs (.e0 a0 a1 : L11c.O)) (L11c.XH L j l n f m g V xs (.e0 a0 a1 : L11c.O)) := by
  have h_ := L11c.spec L j l n f hn m g hm hk V xs hf hV hV2 (((L - a19).toNat) + 1) (a19, v18, al) hinv (Nat.lt_succ_self _)
  unfold L11c.run at hN
  simp only [hN] at h_
  exact h_
theorem L11c.len0_1 {L : Int} {j : Int} {xs : List Int} : ∀ (m_ : Nat) (a19 : Int) (v18 : Nat) (al : List Int) (a0_ : Nat) (a1_ : List Int), L11c.N L j xs m_ a19 v18 al = (.e0 a0_ a1_ : L11c.O) → (a1_).length ≤ (al).length + m_ := by
  intro m_
  induction m_ with
  | zero =>
    intro a19 v18 al a0_ a1_ h_
    simp only [L11c.N] at h_
    cases h_
    first | exact Nat.zero_le _ | omega
  | succ m_ ih_ =>
    intro a19 v18 al a0_ a1_ h_
    cases h1 : decide (a19 < L) with
    | true =>
      have h1p := of_decide_eq_true h1
      (simp only [L11c.N, h1, cond_true, cond_false] at h_; first | (have := ih_ _ _ _ _ _ h_; (try simp only [List.length_append, List.length_cons, List.length_nil, List.length_set] at this); omega) | (cases h_; done) | (cases h_; omega))
    | false =>
      have h1p := of_decide_eq_false h1
      (simp only [L11c.N, h1, cond_true, cond_false] at h_; first | (have := ih_ _ _ _ _ _ h_; (try simp only [List.length_append, List.length_cons, List.length_nil, List.length_set] at this); omega) | (cases h_; done) | (cases h_; omega))
theorem L11c.lenR0_1 {L : Int} {j : Int} {xs : List Int} {a19 : Int} {v18 : Nat} {al : List Int} {a0_ : Nat} {a1_ : List Int} (h_ : L11c.run L j xs a19 v18 al = (.e0 a0_ a1_ : L11c.O)) : (a1_).length ≤ (al).length + (((L - a19).toNat) + 1) := L11c.len0_1 _ a19 v18 al a0_ a1_ h_

theorem first_pos {L j l : Int} {n m : Nat} {f g : Nat → Int} {xs : List Int} (hf : FOk L j l n f m g xs) (h : LOk L j l n f m g) (hne : ¬ (xs.getD 0 0 = 0)) : (0 : Int) ≥ L ∨ xs.getD 0 0 > 0 := by
  rcases hf.step h (t := 0) (by have := h.l1; omega) with e | ⟨b1, b2, b3⟩
  · exact (hne e).elim
  · right; omega
noncomputable def r11.v0 (L : Int) (j : Int) (l : Int) (n : Nat) (f : Nat → Int) (m : Nat) (g : Nat → Int) : List Int := (bif r32.v L j l n f m g == 0 then (match L11a.run L j l n f m g (IntKind.i64.wrap (L - 1)) (List.replicate (IntKind.i64.wrap (L + 1)).toNat 0) with | .e0 h2d0 => (bif h2d0.getD 0 0 == 0 then ([] : List Int) else (match L11c.run L j h2d0 0 0 [] with | .e0 h4d0 h4d1 => h4d1 )) ) else ([] : List Int))
noncomputable def r11.v1 (L : Int) (j : Int) (l : Int) (n : Nat) (f : Nat → Int) (m : Nat) (g : Nat → Int) : Int := (bif r32.v L j l n f m g == 0 then (match L11a.run L j l n f m g (IntKind.i64.wrap (L - 1)) (List.replicate (IntKind.i64.wrap (L + 1)).toNat 0) with | .e0 h2d0 => (bif h2d0.getD 0 0 == 0 then 9 else (match L11c.run L j h2d0 0 0 [] with | .e0 h4d0 h4d1 => 0 )) ) else r32.v L j l n f m g)
noncomputable abbrev r11.h0 (L : Int) (j : Int) (l : Int) (n : Nat) (f : Nat → Int) (m : Nat) (g : Nat → Int) : AHeap := ([AObj.var (AV.int IntKind.i64 L), AObj.var (AV.int IntKind.i64 j), AObj.var (AV.int IntKind.i64 l), AObj.var (AV.sl 1 m fun (i : Nat) => AV.int IntKind.i64 (g i))])
theorem r11 (L : Int) (j : Int) (l : Int) (n : Nat) (f : Nat → Int) (hn : n ≤ 9223372036854775807) (m : Nat) (g : Nat → Int) (hm : m ≤ 9223372036854775807) (h : AHeap) : Ret Try.prog 11 ([AV.int IntKind.i64 L, AV.int IntKind.i64 j, AV.int IntKind.i64 l, ivs n f, ivs m g]) h (AV.tup [(avInts IntKind.i64 (r11.v0 L j l n f m g)), (AV.int IntKind.i64 (r11.v1 L j l n f m g))]) h := by
  try have := bd_ok (by first | assumption | omega) (by first | assumption | omega) (by first | assumption | omega)
  try have := bd_len (by first | assumption | omega)
  try have := bd_fok (by first | assumption | omega) (by first | assumption | omega)
  have o0 : n ≤ (9223372036854775807 : Nat) := by first | assumption | omega | (simp_all; done)
  have o1 : m ≤ (9223372036854775807 : Nat) := by first | assumption | omega | (simp_all; done)
  cases h1 : r32.v L j l n f m g == 0 with
  | true =>
    have h1p := eq_of_beq h1
    try have := bd_ok (by first | assumption | omega) (by first | assumption | omega) (by first | assumption | omega)
    try have := bd_len (by first | assumption | omega)
    try have := bd_fok (by first | assumption | omega) (by first | assumption | omega)
    try have := L11a.leqR0_0 _ _ _ _ _ _ _ (by assumption); (try simp only [List.length_replicate] at this)
    try have := L11c.lenR0_1 (by assumption); (try simp only [List.length_nil] at this)
    try have := IntWalk.i64_in (L + 1) (by omega)
    have o2 : (0 : Int) ≤ IntKind.i64.wrap (L + (1 : Int)) := by first | assumption | omega | (simp_all; done)
    have o3 : (8 : Int) * IntKind.i64.wrap (L + (1 : Int)) ≤ (281474976710656 : Int) := by first | assumption | omega | (simp_all; done)
    have o4 : IntKind.i64.wrap (L + (1 : Int)) ≤ (9223372036854775807 : Int) := by first | assumption | omega | (simp_all; done)
    have o5 : LOk L j l n f m g := by first | assumption | (simp_all; done)
    have o6 : (IntKind.i64.wrap (L + (1 : Int))).toNat = (L + (1 : Int)).toNat := by first | assumption | omega | (simp_all; done)
    try have := IntWalk.i64_in (L - 1) (by omega)
    have o7 : (-1 : Int) ≤ IntKind.i64.wrap (L - (1 : Int)) := by first | assumption | omega | (simp_all; done)
    have o8 : IntKind.i64.wrap (L - (1 : Int)) ≤ L - (1 : Int) := by first | assumption | omega | (simp_all; done)
    have o9 : (List.replicate (IntKind.i64.wrap (L + (1 : Int))).toNat (0 : Int)).length = (IntKind.i64.wrap (L + (1 : Int))).toNat := by first | assumption | omega | (simp only [List.length_append, List.length_cons, List.length_nil, List.length_map]; omega) | (simp_all; done)
    cases h2 : L11a.run L j l n f m g (IntKind.i64.wrap (L - 1)) (List.replicate (IntKind.i64.wrap (L + 1)).toNat 0) with
    | e0 h2d0 =>
      try have := bd_ok (by first | assumption | omega) (by first | assumption | omega) (by first | assumption | omega)
      try have := bd_len (by first | assumption | omega)
      try have := bd_fok (by first | assumption | omega) (by first | assumption | omega)
      try have := L11a.leqR0_0 _ _ _ _ _ _ _ (by assumption); (try simp only [List.length_replicate] at this)
      try have := L11c.lenR0_1 (by assumption); (try simp only [List.length_nil] at this)
      try have := IntWalk.i64_in (L + 1) (by omega)
      have o10 : (0 : Int) < (↑(IntKind.i64.wrap (L + (1 : Int))).toNat : Int) := by first | assumption | omega | (simp_all; done)
      have o11 : (0 : Nat) < (Col.ints IntKind.i64 h2d0).len := by first | assumption | omega | (simp only [List.length_append, List.length_cons, List.length_nil, List.length_map]; omega) | rfl | (exact Nat.le_refl _) | (simp [Col.len]; done) | (simp only [Col.len, zero_bool, zero_int, List.length_replicate, List.length_set] at *; omega) | (simp_all; done)
      cases h3 : h2d0.getD 0 0 == 0 with
      | true =>
        have h3p := eq_of_beq h3
        exact Ret.val (show (AV.tup [(avInts IntKind.i64 ([] : List Int)), AV.int IntKind.i64 9]) = (AV.tup [(avInts IntKind.i64 (r11.v0 L j l n f m g)), (AV.int IntKind.i64 (r11.v1 L j l n f m g))]) by first | (simp only [r11.v0, r11.v1, h1, h3, h2, cond_true, cond_false]; done) | (try unfold r11.v0; try unfold r11.v1; try simp only [h1, cond_true, cond_false]; try simp only [h3, cond_true, cond_false]; try simp only [h2, cond_true, cond_false]; try rfl; done) | rfl) (Ret.of_run1 mix [(avInts IntKind.i64 ([] : List Int)), AV.int IntKind.i64 9] Try.func11 rfl [.ret (AV.int IntKind.i64 (r32.v L j l n f m g)) (r11.h0 L j l n f m g), .b false, .loop (others 77 [3, 5, 6, 13, 14, 15]) (Exit.exit 0) (L11a.X L j l n f m g (IntKind.i64.wrap (L + 1)).toNat (L11a.O.e0 h2d0)) (L11a.XH L j l n f m g (IntKind.i64.wrap (L + 1)).toNat (L11a.O.e0 h2d0)), .b true] (by simp) (by simp) (kmp (by kernel_rfl) (And.intro (r32 (L) (j) (l) (n) (f) o0 (m) (g) o1 (r11.h0 L j l n f m g)) (And.intro (show (bnot (r32.v L j l n f m g == 0)) = false by rw [h1]; try rfl) (And.intro (And.intro (rfl : IntKind.i64.wrap (L + (1 : Int)) = IntKind.i64.wrap (L + (1 : Int))) (And.intro o2 (And.intro o3 o4))) (And.intro (L11a.e0 (L) (j) (l) (n) (f) o0 (m) (g) o1 o5 ((IntKind.i64.wrap (L + 1)).toNat) o6 (IntKind.i64.wrap (L - 1)) (List.replicate (IntKind.i64.wrap (L + 1)).toNat 0) (And.intro (And.intro o7 o8) o9) h2d0 h2) (And.intro (And.intro (show (0 : Int) ≤ (0 : Int) by first | decide | exact Int.NonNeg.mk _) o10) (And.intro (And.intro (rfl : (IntKind.i64.wrap (L + (1 : Int))).toNat = (IntKind.i64.wrap (L + (1 : Int))).toNat) (And.intro (show (1 : Nat) = (1 : Nat) by first | decide | exact Int.NonNeg.mk _) o11)) (And.intro h3 (And.intro (rfl : ((avInts IntKind.i64 ([] : List Int))) = ((avInts IntKind.i64 ([] : List Int)))) (And.intro (rfl : (AV.int IntKind.i64 9) = (AV.int IntKind.i64 9)) trivial)))))))))) h)
      | false =>
        have h3p := ne_of_beq_false h3
        try have := bd_ok (by first | assumption | omega) (by first | assumption | omega) (by first | assumption | omega)
        try have := bd_len (by first | assumption | omega)
        try have := bd_fok (by first | assumption | omega) (by first | assumption | omega)
        try have := L11a.leqR0_0 _ _ _ _ _ _ _ (by assumption); (try simp only [List.length_replicate] at this)
        try have := L11c.lenR0_1 (by assumption); (try simp only [List.length_nil] at this)
        have o12 : FOk L j l n f m g h2d0 := by first | assumption | (simp_all; done)
        have o13 : h2d0.length = (L + (1 : Int)).toNat := by first | assumption | omega | (simp only [List.length_append, List.length_cons, List.length_nil, List.length_map]; omega) | (simp_all; done)
        have o14 : (0 : Int) ≥ L ∨ h2d0.getD (0 : Nat) (0 : Int) > (0 : Int) := by first | assumption | omega | (apply first_pos <;> first | assumption | omega) | (simp_all; done)
        cases h4 : L11c.run L j h2d0 0 0 [] with
        | e0 h4d0 h4d1 =>
          try have := bd_ok (by first | assumption | omega) (by first | assumption | omega) (by first | assumption | omega)
          try have := bd_len (by first | assumption | omega)
          try have := bd_fok (by first | assumption | omega) (by first | assumption | omega)
          try have := L11a.leqR0_0 _ _ _ _ _ _ _ (by assumption); (try simp only [List.length_replicate] at this)
          try have := L11c.lenR0_1 (by assumption); (try simp only [List.length_nil] at this)
          have o15 : (0 : Nat) + h4d1.length ≤ (Col.ints IntKind.i64 h4d1).len := by first | assumption | omega | (simp only [List.length_append, List.length_cons, List.length_nil, List.length_map]; omega) | rfl | (exact Nat.le_refl _) | (simp [Col.len]; done) | (simp only [Col.len, zero_bool, zero_int, List.length_replicate, List.length_set] at *; omega) | (simp_all; done)
          exact Ret.of_run1 mix [(avInts IntKind.i64 (r11.v0 L j l n f m g)), (AV.int IntKind.i64 (r11.v1 L j l n f m g))] Try.func11 rfl [.ret (AV.int IntKind.i64 (r32.v L j l n f m g)) (r11.h0 L j l n f m g), .b false, .loop (others 77 [3, 5, 6, 13, 14, 15]) (Exit.exit 0) (L11a.X L j l n f m g (IntKind.i64.wrap (L + 1)).toNat (L11a.O.e0 h2d0)) (L11a.XH L j l n f m g (IntKind.i64.wrap (L + 1)).toNat (L11a.O.e0 h2d0)), .b false, .virt [] [(none, 18, 1, Col.ints IntKind.i64 [])], .loop (others 77 [5, 6, 13, 18, 19]) (Exit.exit 4) (L11c.X L j l n f m g (IntKind.i64.wrap (L + 1)).toNat h2d0 (L11c.O.e0 h4d0 h4d1)) (L11c.XH L j l n f m g (IntKind.i64.wrap (L + 1)).toNat h2d0 (L11c.O.e0 h4d0 h4d1))] (by simp) (by simp) (kmp (by kernel_rfl) (And.intro (r32 (L) (j) (l) (n) (f) o0 (m) (g) o1 (r11.h0 L j l n f m g)) (And.intro (show (bnot (r32.v L j l n f m g == 0)) = false by rw [h1]; try rfl) (And.intro (And.intro (rfl : IntKind.i64.wrap (L + (1 : Int)) = IntKind.i64.wrap (L + (1 : Int))) (And.intro o2 (And.intro o3 o4))) (And.intro (L11a.e0 (L) (j) (l) (n) (f) o0 (m) (g) o1 o5 ((IntKind.i64.wrap (L + 1)).toNat) o6 (IntKind.i64.wrap (L - 1)) (List.replicate (IntKind.i64.wrap (L + 1)).toNat 0) (And.intro (And.intro o7 o8) o9) h2d0 h2) (And.intro (And.intro (show (0 : Int) ≤ (0 : Int) by first | decide | exact Int.NonNeg.mk _) o10) (And.intro (And.intro (rfl : (IntKind.i64.wrap (L + (1 : Int))).toNat = (IntKind.i64.wrap (L + (1 : Int))).toNat) (And.intro (show (1 : Nat) = (1 : Nat) by first | decide | exact Int.NonNeg.mk _) o11)) (And.intro h3 (And.intro (And.intro (rfl : AV.snil = AV.snil) (And.intro (rfl : (0 : Nat) = 0) trivial)) (And.intro (L11c.e0 (L) (j) (l) (n) (f) o0 (m) (g) o1 o5 ((IntKind.i64.wrap (L + 1)).toNat) (h2d0) o12 o6 o13 (0) (0) ([]) (And.intro (And.intro (show (0 : Int) ≤ (0 : Int) by first | decide | exact Int.NonNeg.mk _) (show (0 : Int) ≤ (41000 : Int) by first | decide | exact Int.NonNeg.mk _)) (And.intro o14 (show (0 : Int) ≤ (0 : Int) by first | decide | exact Int.NonNeg.mk _))) h4d0 h4d1 h4) (And.intro (And.intro (rfl : h4d0 = h4d0) (And.intro (show (1 : Nat) = (1 : Nat) by first | decide | exact Int.NonNeg.mk _) (And.intro o15 (show ((avInts IntKind.i64 h4d1)) = ((avInts IntKind.i64 (r11.v0 L j l n f m g))) by first | (simp only [r11.v0, r11.v1, h1, h3, h2, h4, cond_true, cond_false]; done) | (try unfold r11.v0; try unfold r11.v1; try simp only [h1, cond_true, cond_false]; try simp only [h3, cond_true, cond_false]; try simp only [h2, cond_true, cond_false]; try simp only [h4, cond_true, cond_false]; try rfl; done) | rfl)))) (And.intro (show (AV.int IntKind.i64 0) = ((AV.int IntKind.i64 (r11.v1 L j l n f m g))) by first | (simp only [r11.v0, r11.v1, h1, h3, h2, h4, cond_true, cond_false]; done) | (try unfold r11.v0; try unfold r11.v1; try simp only [h1, cond_true, cond_false]; try simp only [h3, cond_true, cond_false]; try simp only [h2, cond_true, cond_false]; try simp only [h4, cond_true, cond_false]; try rfl; done) | rfl) trivial)))))))))))) h
  | false =>
    have h1p := ne_of_beq_false h1
    exact Ret.val (show (AV.tup [(avInts IntKind.i64 ([] : List Int)), AV.int IntKind.i64 (r32.v L j l n f m g)]) = (AV.tup [(avInts IntKind.i64 (r11.v0 L j l n f m g)), (AV.int IntKind.i64 (r11.v1 L j l n f m g))]) by first | (simp only [r11.v0, r11.v1, h1, cond_true, cond_false]; done) | (try unfold r11.v0; try unfold r11.v1; try simp only [h1, cond_true, cond_false]; try rfl; done) | rfl) (Ret.of_run1 mix [(avInts IntKind.i64 ([] : List Int)), AV.int IntKind.i64 (r32.v L j l n f m g)] Try.func11 rfl [.ret (AV.int IntKind.i64 (r32.v L j l n f m g)) (r11.h0 L j l n f m g), .b true] (by simp) (by simp) (kmp (by kernel_rfl) (And.intro (r32 (L) (j) (l) (n) (f) o0 (m) (g) o1 (r11.h0 L j l n f m g)) (And.intro (show (bnot (r32.v L j l n f m g == 0)) = true by rw [h1]; try rfl) (And.intro (rfl : ((avInts IntKind.i64 ([] : List Int))) = ((avInts IntKind.i64 ([] : List Int)))) (And.intro (rfl : (AV.int IntKind.i64 (r32.v L j l n f m g)) = (AV.int IntKind.i64 (r32.v L j l n f m g))) trivial))))) h)

end Go.Proofs.Ytjdbmmilcihpoaa

/- the wall seat's contracts: the reference of Layout. -/
open Go
namespace Go.Proofs.Ytjdbmmilcihpoaa
set_option linter.unusedSimpArgs false
set_option linter.unusedVariables false
set_option maxHeartbeats 0
set_option maxRecDepth 100000
def bvs (m : Nat) (c : Nat → Bool) : AV := .sl 1 m (fun i => .bool (c i))
@[simp] theorem low_bvs (lo m : Nat) (c : Nat → Bool) : Low lo (bvs m c) = True := by unfold bvs; simp
theorem c38 (L : Int) (j : Int) (l : Int) (n : Nat) (f : Nat → Int) (hn : n ≤ 9223372036854775807) (m : Nat) (g : Nat → Int) (hm : m ≤ 9223372036854775807) (hk : LOk L j l n f m g) (h : AHeap) : Ret Try.prog 38 ([AV.int IntKind.i64 L, AV.int IntKind.i64 j, AV.int IntKind.i64 l, ivs n f, ivs m g]) h (bvs (L + 1).toNat (fun i => (r38.v1 L j l n f m g).getD i false)) h := by
  have := r38 L j l n f hn m g hm hk h
  have e : r38.v0 L j l n f m g = (L + 1).toNat := by
    unfold r38.v0
    have h1 := hk.l1
    have h2 := hk.l2
    cases L38a.run L j l n f m g (IntKind.i64.wrap (L - 1)) (List.replicate (IntKind.i64.wrap (L + 1)).toNat false)
    rw [i64_small (by omega)]
  rw [e] at this
  exact this
inductive L16ab.O where
  | e0 (a0 : Nat) (a1 : List Int)
  | e1 (a0 : Nat) (a1 : List Int) (a2 : Int)
  | e2 (a0 : Nat) (a1 : List Int)
noncomputable def L16ab.T (L : Int) (j : Int) (l : Int) (n : Nat) (f : Nat → Int) (m : Nat) (g : Nat → Int) (c : Nat → Bool) (a13 : Int) (bv12 : Nat) (bl12 : List Int) (b14 : Int) : List AV := mkT 80 [(0, AV.int IntKind.i64 L), (1, AV.int IntKind.i64 j), (2, AV.int IntKind.i64 l), (3, ivs n f), (4, ivs m g), (11, bvs (L + 1).toNat c), (12, AV.ms 0 bv12 1 0 bl12.length), (13, AV.int IntKind.i64 a13), (14, AV.int IntKind.i64 b14)]
noncomputable def L16ab.H (L : Int) (j : Int) (l : Int) (n : Nat) (f : Nat → Int) (m : Nat) (g : Nat → Int) (c : Nat → Bool) (a13 : Int) (bv12 : Nat) (bl12 : List Int) (b14 : Int) : AHeap := [AObj.row 1 bv12 (Col.ints IntKind.i64 bl12)]
def L16ab.inv (L : Int) (j : Int) (l : Int) (n : Nat) (f : Nat → Int) (m : Nat) (g : Nat → Int) (c : Nat → Bool) (a13 : Int) (bv12 : Nat) (bl12 : List Int) (b14 : Int) : Prop := (0 ≤ b14 ∧ b14 ≤ (↑n : Int)) ∧ (↑bl12.length : Int) ≤ a13
noncomputable def L16ab.mu (L : Int) (j : Int) (l : Int) (n : Nat) (f : Nat → Int) (m : Nat) (g : Nat → Int) (c : Nat → Bool) (a13 : Int) (bv12 : Nat) (bl12 : List Int) (b14 : Int) : Nat := ((↑n : Int) - b14).toNat
noncomputable def L16ab.E : L16ab.O → Exit
  | .e0 a0 a1 => Exit.ret
  | .e1 a0 a1 a2 => Exit.exit 2
  | .e2 a0 a1 => Exit.exit 2
noncomputable def L16ab.X (L : Int) (j : Int) (l : Int) (n : Nat) (f : Nat → Int) (m : Nat) (g : Nat → Int) (c : Nat → Bool) (a13 : Int) : L16ab.O → List AV
  | .e0 a0 a1 => mkT 80 [(10, (AV.ms 0 a0 1 0 (List.length a1)))]
  | .e1 a0 a1 a2 => mkT 80 [(0, (AV.int IntKind.i64 L)), (1, (AV.int IntKind.i64 j)), (2, (AV.int IntKind.i64 l)), (3, (AV.sl 1 n fun (i : Nat) => AV.int IntKind.i64 (f i))), (4, (AV.sl 1 m fun (i : Nat) => AV.int IntKind.i64 (g i))), (11, (AV.sl 1 (L + 1).toNat fun (i : Nat) => AV.bool (c i))), (12, (AV.ms 0 a0 1 0 (List.length a1))), (13, (AV.int IntKind.i64 a2))]
  | .e2 a0 a1 => mkT 80 [(0, (AV.int IntKind.i64 L)), (1, (AV.int IntKind.i64 j)), (2, (AV.int IntKind.i64 l)), (3, (AV.sl 1 n fun (i : Nat) => AV.int IntKind.i64 (f i))), (4, (AV.sl 1 m fun (i : Nat) => AV.int IntKind.i64 (g i))), (11, (AV.sl 1 (L + 1).toNat fun (i : Nat) => AV.bool (c i))), (12, (AV.ms 0 a0 1 0 (List.length a1))), (13, (AV.int IntKind.i64 a13))]
noncomputable def L16ab.XH (L : Int) (j : Int) (l : Int) (n : Nat) (f : Nat → Int) (m : Nat) (g : Nat → Int) (c : Nat → Bool) (a13 : Int) : L16ab.O → AHeap
  | .e0 a0 a1 => ((AObj.row 1 a0 (Col.ints IntKind.i64 a1)) :: ([]))
  | .e1 a0 a1 a2 => ((AObj.row 1 a0 (Col.ints IntKind.i64 a1)) :: ([]))
  | .e2 a0 a1 => ((AObj.row 1 a0 (Col.ints IntKind.i64 a1)) :: ([]))
noncomputable def L16ab.N (L : Int) (j : Int) (l : Int) (n : Nat) (f : Nat → Int) (m : Nat) (g : Nat → Int) (c : Nat → Bool) (a13 : Int) : Nat → Nat → (List Int) → Int → L16ab.O
  | 0, _, _, _ => .e0 default default
  | k_ + 1, bv12, bl12, b14 => (bif decide (b14 < (↑n : Int)) then (bif IntKind.i64.wrap (a13 + f b14.toNat) == L then (.e0 (bv12 + 1) (bl12 ++ [f b14.toNat])) else (bif decide (IntKind.i64.wrap (IntKind.i64.wrap (a13 + f b14.toNat) + j) < L) then (bif r36.v (IntKind.i64.wrap (a13 + f b14.toNat)) j l m g then (bif c (IntKind.i64.wrap (IntKind.i64.wrap (a13 + f b14.toNat) + j)).toNat then (.e1 (bv12 + 1) (bl12 ++ [f b14.toNat]) (IntKind.i64.wrap (IntKind.i64.wrap (a13 + f b14.toNat) + j))) else (L16ab.N L j l n f m g c a13 k_ (bv12) (bl12) (IntKind.i64.wrap (b14 + 1)))) else (L16ab.N L j l n f m g c a13 k_ (bv12) (bl12) (IntKind.i64.wrap (b14 + 1)))) else (L16ab.N L j l n f m g c a13 k_ (bv12) (bl12) (IntKind.i64.wrap (b14 + 1))))) else (.e2 (bv12) (bl12)))
noncomputable def L16ab.run (L : Int) (j : Int) (l : Int) (n : Nat) (f : Nat → Int) (m : Nat) (g : Nat → Int) (c : Nat → Bool) (a13 : Int) (bv12 : Nat) (bl12 : List Int) (b14 : Int) : L16ab.O := L16ab.N L j l n f m g c a13 ((((↑n : Int) - b14).toNat) + 1) bv12 bl12 b14
def L16ab.Next (L : Int) (j : Int) (l : Int) (n : Nat) (f : Nat → Int) (m : Nat) (g : Nat → Int) (c : Nat → Bool) (a13 : Int) (k_ : Nat) (z_ : Nat × (List Int) × Int) (T_ : List AV) (h_ : AHeap) : Prop := LNextP (fun (z_ : Nat × (List Int) × Int) => L16ab.T L j l n f m g c a13 z_.1 z_.2.1 z_.2.2) (fun (z_ : Nat × (List Int) × Int) => L16ab.H L j l n f m g c a13 z_.1 z_.2.1 z_.2.2) (fun (z_ : Nat × (List Int) × Int) => L16ab.inv L j l n f m g c a13 z_.1 z_.2.1 z_.2.2) (fun (z_ : Nat × (List Int) × Int) => L16ab.mu L j l n f m g c a13 z_.1 z_.2.1 z_.2.2) (fun (k_ : Nat) (z_ : Nat × (List Int) × Int) => L16ab.N L j l n f m g c a13 k_ z_.1 z_.2.1 z_.2.2) k_ z_ T_ h_
def L16ab.End (L : Int) (j : Int) (l : Int) (n : Nat) (f : Nat → Int) (m : Nat) (g : Nat → Int) (c : Nat → Bool) (a13 : Int) (k_ : Nat) (z_ : Nat × (List Int) × Int) (e_ : Exit) (T_ : List AV) (h_ : AHeap) : Prop := LEndP (fun (z_ : Nat × (List Int) × Int) => L16ab.H L j l n f m g c a13 z_.1 z_.2.1 z_.2.2) (fun (k_ : Nat) (z_ : Nat × (List Int) × Int) => L16ab.N L j l n f m g c a13 k_ z_.1 z_.2.1 z_.2.2) L16ab.E (L16ab.X L j l n f m g c a13) (L16ab.XH L j l n f m g c a13) k_ z_ e_ T_ h_
theorem L16ab.nx (L : Int) (j : Int) (l : Int) (n : Nat) (f : Nat → Int) (m : Nat) (g : Nat → Int) (c : Nat → Bool) (a13 : Int) {k_ : Nat} {z_ : Nat × (List Int) × Int} {h_ : AHeap} (s_ : Nat × (List Int) × Int) (h1 : L16ab.inv L j l n f m g c a13 s_.1 s_.2.1 s_.2.2) (h2 : L16ab.mu L j l n f m g c a13 s_.1 s_.2.1 s_.2.2 < L16ab.mu L j l n f m g c a13 z_.1 z_.2.1 z_.2.2) (h3 : L16ab.N L j l n f m g c a13 k_ s_.1 s_.2.1 s_.2.2 = L16ab.N L j l n f m g c a13 (k_ + 1) z_.1 z_.2.1 z_.2.2) (h4 : PopOk (L16ab.H L j l n f m g c a13 z_.1 z_.2.1 z_.2.2) h_ (L16ab.T L j l n f m g c a13 s_.1 s_.2.1 s_.2.2) (L16ab.H L j l n f m g c a13 s_.1 s_.2.1 s_.2.2)) : LNextP (fun (z_ : Nat × (List Int) × Int) => L16ab.T L j l n f m g c a13 z_.1 z_.2.1 z_.2.2) (fun (z_ : Nat × (List Int) × Int) => L16ab.H L j l n f m g c a13 z_.1 z_.2.1 z_.2.2) (fun (z_ : Nat × (List Int) × Int) => L16ab.inv L j l n f m g c a13 z_.1 z_.2.1 z_.2.2) (fun (z_ : Nat × (List Int) × Int) => L16ab.mu L j l n f m g c a13 z_.1 z_.2.1 z_.2.2) (fun (k_ : Nat) (z_ : Nat × (List Int) × Int) => L16ab.N L j l n f m g c a13 k_ z_.1 z_.2.1 z_.2.2) k_ z_ (L16ab.T L j l n f m g c a13 s_.1 s_.2.1 s_.2.2) h_ := LNextP.mk (Tm := (fun (z_ : Nat × (List Int) × Int) => L16ab.T L j l n f m g c a13 z_.1 z_.2.1 z_.2.2)) (Hp := (fun (z_ : Nat × (List Int) × Int) => L16ab.H L j l n f m g c a13 z_.1 z_.2.1 z_.2.2)) (inv := (fun (z_ : Nat × (List Int) × Int) => L16ab.inv L j l n f m g c a13 z_.1 z_.2.1 z_.2.2)) (mu := (fun (z_ : Nat × (List Int) × Int) => L16ab.mu L j l n f m g c a13 z_.1 z_.2.1 z_.2.2)) (l := (fun (k_ : Nat) (z_ : Nat × (List Int) × Int) => L16ab.N L j l n f m g c a13 k_ z_.1 z_.2.1 z_.2.2)) s_ h1 h2 h3 h4
theorem L16ab.en (L : Int) (j : Int) (l : Int) (n : Nat) (f : Nat → Int) (m : Nat) (g : Nat → Int) (c : Nat → Bool) (a13 : Int) {k_ : Nat} {z_ : Nat × (List Int) × Int} {h_ : AHeap} (o_ : L16ab.O) (h3 : L16ab.N L j l n f m g c a13 (k_ + 1) z_.1 z_.2.1 z_.2.2 = o_) (h4 : PopOk (L16ab.H L j l n f m g c a13 z_.1 z_.2.1 z_.2.2) h_ (L16ab.X L j l n f m g c a13 o_) (L16ab.XH L j l n f m g c a13 o_)) : LEndP (fun (z_ : Nat × (List Int) × Int) => L16ab.H L j l n f m g c a13 z_.1 z_.2.1 z_.2.2) (fun (k_ : Nat) (z_ : Nat × (List Int) × Int) => L16ab.N L j l n f m g c a13 k_ z_.1 z_.2.1 z_.2.2) L16ab.E (L16ab.X L j l n f m g c a13) (L16ab.XH L j l n f m g c a13) k_ z_ (L16ab.E o_) (L16ab.X L j l n f m g c a13 o_) h_ := LEndP.mk (Hp := (fun (z_ : Nat × (List Int) × Int) => L16ab.H L j l n f m g c a13 z_.1 z_.2.1 z_.2.2)) (l := (fun (k_ : Nat) (z_ : Nat × (List Int) × Int) => L16ab.N L j l n f m g c a13 k_ z_.1 z_.2.1 z_.2.2)) (oE := L16ab.E) (oT := L16ab.X L j l n f m g c a13) (oH := L16ab.XH L j l n f m g c a13) o_ h3 h4
theorem L16ab.spec (L : Int) (j : Int) (l : Int) (n : Nat) (f : Nat → Int) (hn : n ≤ 9223372036854775807) (m : Nat) (g : Nat → Int) (hm : m ≤ 9223372036854775807) (hk : LOk L j l n f m g) (c : Nat → Bool) (a13 : Int) (h0 : 0 ≤ a13) (h1 : a13 < L) (k_ : Nat) (z_ : Nat × (List Int) × Int) (hi_ : L16ab.inv L j l n f m g c a13 z_.1 z_.2.1 z_.2.2) (hm_ : L16ab.mu L j l n f m g c a13 z_.1 z_.2.1 z_.2.2 < k_) : LoopTo Try.prog (loopN Try.f16 1) (L16ab.T L j l n f m g c a13 z_.1 z_.2.1 z_.2.2) (L16ab.H L j l n f m g c a13 z_.1 z_.2.1 z_.2.2) (L16ab.E (L16ab.N L j l n f m g c a13 k_ z_.1 z_.2.1 z_.2.2)) (L16ab.X L j l n f m g c a13 (L16ab.N L j l n f m g c a13 k_ z_.1 z_.2.1 z_.2.2)) (L16ab.XH L j l n f m g c a13 (L16ab.N L j l n f m g c a13 k_ z_.1 z_.2.1 z_.2.2)) := by
  refine LoopTo.fuelP mix (fun (z_ : Nat × (List Int) × Int) => L16ab.T L j l n f m g c a13 z_.1 z_.2.1 z_.2.2) (fun (z_ : Nat × (List Int) × Int) => L16ab.H L j l n f m g c a13 z_.1 z_.2.1 z_.2.2) (fun (z_ : Nat × (List Int) × Int) => L16ab.inv L j l n f m g c a13 z_.1 z_.2.1 z_.2.2) (fun (z_ : Nat × (List Int) × Int) => L16ab.mu L j l n f m g c a13 z_.1 z_.2.1 z_.2.2) (fun (k_ : Nat) (z_ : Nat × (List Int) × Int) => L16ab.N L j l n f m g c a13 k_ z_.1 z_.2.1 z_.2.2) L16ab.E (L16ab.X L j l n f m g c a13) (L16ab.XH L j l n f m g c a13) (others 80 [0, 1, 2, 3, 4, 11, 12, 13, 14]) (others 80 [10]) (others 80 [0, 1, 2, 3, 4, 11, 12, 13]) ?_ k_ z_ hi_ hm_
  clear hm_ hi_ z_ k_
  intro k_ z_ hinv hmu
  obtain ⟨bv12, bl12, b14⟩ := z_
  have hinv : (0 ≤ b14 ∧ b14 ≤ (↑n : Int)) ∧ (↑bl12.length : Int) ≤ a13 := hinv
  have hmu : (((↑n : Int) - b14).toNat) < k_ + 1 := hmu
  cases h1 : decide (b14 < (↑n : Int)) with
  | true =>
    have h1p := of_decide_eq_true h1
    try have := bd_len (by first | assumption | omega)
    try have := bd_sz (by first | assumption | omega) (by first | assumption | omega) (by first | assumption | omega)
    have o0 : (0 : Int) ≤ b14 := by first | assumption | omega | (simp_all; done)
    have o1 : b14 < (↑n : Int) := by first | assumption | omega | (simp_all; done)
    cases h2 : IntKind.i64.wrap (a13 + f b14.toNat) == L with
    | true =>
      have h2p := eq_of_beq h2
      try have := bd_len (by first | assumption | omega)
      try have := bd_sz (by first | assumption | omega) (by first | assumption | omega) (by first | assumption | omega)
      have o2 : (bl12.length + (1 : Nat)) * (8 : Nat) ≤ (140737488355328 : Nat) := by first | assumption | omega | (simp only [List.length_append, List.length_cons, List.length_nil, List.length_map]; omega) | (simp_all; done)
      have o3 : bl12.length = (Col.ints IntKind.i64 bl12).len := by first | assumption | omega | (simp only [List.length_append, List.length_cons, List.length_nil, List.length_map]; omega) | rfl | (exact Nat.le_refl _) | (simp [Col.len]; done) | (simp only [Col.len, zero_bool, zero_int, List.length_replicate, List.length_set] at *; omega) | (simp_all; done)
      exact ⟨[.b true, .b true, .app .one false], kmp (by kernel_rfl) (And.intro h1 (And.intro (And.intro o0 o1) (And.intro h2 (And.intro (And.intro o0 o1) (And.intro (And.intro (show (1 : Nat) = (1 : Nat) by first | decide | exact Int.NonNeg.mk _) (And.intro (show AppMode.one.needs 1 fun (a : Nat) => (Col.ofList [AV.int IntKind.i64 (f b14.toNat)]).get a by first | exact ⟨rfl, rfl⟩ | simp [AppMode.needs]) (And.intro o2 (And.intro (rfl : bv12 = bv12) (And.intro (show (0 : Nat) = (0 : Nat) by first | decide | exact Int.NonNeg.mk _) o3))))) (L16ab.en L j l n f m g c a13 (k_ := k_) (z_ := (bv12, bl12, b14)) (.e0 (bv12 + 1) (bl12 ++ [f b14.toNat]) : L16ab.O) (by first | (simp only [L16ab.N, h1, h2, cond_true, cond_false]; done) | (try unfold L16ab.N; try simp only [h1, cond_true, cond_false]; try simp only [h2, cond_true, cond_false]; try rfl; done)) PopOk.same))))))⟩
    | false =>
      have h2p := ne_of_beq_false h2
      cases h3 : decide (IntKind.i64.wrap (IntKind.i64.wrap (a13 + f b14.toNat) + j) < L) with
      | true =>
        have h3p := of_decide_eq_true h3
        try have := bd_len (by first | assumption | omega)
        try have := bd_sz (by first | assumption | omega) (by first | assumption | omega) (by first | assumption | omega)
        have o4 : m ≤ (9223372036854775807 : Nat) := by first | assumption | omega | (simp_all; done)
        cases h4 : r36.v (IntKind.i64.wrap (a13 + f b14.toNat)) j l m g with
        | true =>
          try have := bd_len (by first | assumption | omega)
          try have := bd_sz (by first | assumption | omega) (by first | assumption | omega) (by first | assumption | omega)
          try have := IntWalk.i64_in (a13 + f b14.toNat) (by omega)
          try have := IntWalk.i64_in (IntKind.i64.wrap (a13 + f b14.toNat) + j) (by omega)
          have o5 : (0 : Int) ≤ IntKind.i64.wrap (IntKind.i64.wrap (a13 + f b14.toNat) + j) := by first | assumption | omega | (apply wr_0 <;> first | assumption | omega) | (simp_all; done)
          have o6 : IntKind.i64.wrap (IntKind.i64.wrap (a13 + f b14.toNat) + j) < (↑(L + (1 : Int)).toNat : Int) := by first | assumption | omega | (simp_all; done)
          cases h5 : c (IntKind.i64.wrap (IntKind.i64.wrap (a13 + f b14.toNat) + j)).toNat with
          | true =>
            try have := bd_len (by first | assumption | omega)
            try have := bd_sz (by first | assumption | omega) (by first | assumption | omega) (by first | assumption | omega)
            have o2 : (bl12.length + (1 : Nat)) * (8 : Nat) ≤ (140737488355328 : Nat) := by first | assumption | omega | (simp only [List.length_append, List.length_cons, List.length_nil, List.length_map]; omega) | (simp_all; done)
            have o3 : bl12.length = (Col.ints IntKind.i64 bl12).len := by first | assumption | omega | (simp only [List.length_append, List.length_cons, List.length_nil, List.length_map]; omega) | rfl | (exact Nat.le_refl _) | (simp [Col.len]; done) | (simp only [Col.len, zero_bool, zero_int, List.length_replicate, List.length_set] at *; omega) | (simp_all; done)
            exact ⟨[.b true, .b false, .b true, .b true, .b true, .b true, .b true, .ret (AV.bool (r36.v (IntKind.i64.wrap (a13 + f b14.toNat)) j l m g)) ([AObj.row 1 bv12 (Col.ints IntKind.i64 bl12)]), .b true, .b true, .b true, .b true, .b true, .b true, .b true, .b true, .b true, .app .one false], kmp (by kernel_rfl) (And.intro h1 (And.intro (And.intro o0 o1) (And.intro h2 (And.intro h3 (And.intro h3 (And.intro h3 (And.intro h3 (And.intro h3 (And.intro (r36 (IntKind.i64.wrap (a13 + f b14.toNat)) (j) (l) (m) (g) o4 ([AObj.row 1 bv12 (Col.ints IntKind.i64 bl12)])) (And.intro h3 (And.intro h4 (And.intro h4 (And.intro h4 (And.intro h4 (And.intro h4 (And.intro (And.intro o5 o6) (And.intro h4 (And.intro h4 (And.intro h5 (And.intro (And.intro o0 o1) (And.intro (And.intro (show (1 : Nat) = (1 : Nat) by first | decide | exact Int.NonNeg.mk _) (And.intro (show AppMode.one.needs 1 fun (a : Nat) => (Col.ofList [AV.int IntKind.i64 (f b14.toNat)]).get a by first | exact ⟨rfl, rfl⟩ | simp [AppMode.needs]) (And.intro o2 (And.intro (rfl : bv12 = bv12) (And.intro (show (0 : Nat) = (0 : Nat) by first | decide | exact Int.NonNeg.mk _) o3))))) (L16ab.en L j l n f m g c a13 (k_ := k_) (z_ := (bv12, bl12, b14)) (.e1 (bv12 + 1) (bl12 ++ [f b14.toNat]) (IntKind.i64.wrap (IntKind.i64.wrap (a13 + f b14.toNat) + j)) : L16ab.O) (by first | (simp only [L16ab.N, h1, h2, h3, h4, h5, cond_true, cond_false]; done) | (try unfold L16ab.N; try simp only [h1, cond_true, cond_false]; try simp only [h2, cond_true, cond_false]; try simp only [h3, cond_true, cond_false]; try simp only [h4, cond_true, cond_false]; try simp only [h5, cond_true, cond_false]; try rfl; done)) PopOk.same))))))))))))))))))))))⟩
          | false =>
            try have := bd_len (by first | assumption | omega)
            try have := bd_sz (by first | assumption | omega) (by first | assumption | omega) (by first | assumption | omega)
            try have := IntWalk.i64_in (b14 + 1) (by omega)
            have o7 : (0 : Int) ≤ IntKind.i64.wrap (b14 + (1 : Int)) := by first | assumption | omega | (simp_all; done)
            have o8 : IntKind.i64.wrap (b14 + (1 : Int)) ≤ (↑n : Int) := by first | assumption | omega | (simp_all; done)
            have o9 : (↑bl12.length : Int) ≤ a13 := by first | assumption | omega | (simp only [List.length_append, List.length_cons, List.length_nil, List.length_map]; omega) | (simp_all; done)
            have o10 : ((↑n : Int) - IntKind.i64.wrap (b14 + (1 : Int))).toNat < ((↑n : Int) - b14).toNat := by first | assumption | omega | (simp_all; done)
            exact ⟨[.b true, .b false, .b true, .b true, .b true, .b true, .b true, .ret (AV.bool (r36.v (IntKind.i64.wrap (a13 + f b14.toNat)) j l m g)) ([AObj.row 1 bv12 (Col.ints IntKind.i64 bl12)]), .b true, .b true, .b true, .b true, .b true, .b true, .b true, .b true, .b false], kmp (by kernel_rfl) (And.intro h1 (And.intro (And.intro o0 o1) (And.intro h2 (And.intro h3 (And.intro h3 (And.intro h3 (And.intro h3 (And.intro h3 (And.intro (r36 (IntKind.i64.wrap (a13 + f b14.toNat)) (j) (l) (m) (g) o4 ([AObj.row 1 bv12 (Col.ints IntKind.i64 bl12)])) (And.intro h3 (And.intro h4 (And.intro h4 (And.intro h4 (And.intro h4 (And.intro h4 (And.intro (And.intro o5 o6) (And.intro h4 (And.intro h4 (And.intro h5 (L16ab.nx L j l n f m g c a13 (k_ := k_) (z_ := (bv12, bl12, b14)) ((bv12, bl12, IntKind.i64.wrap (b14 + 1))) (And.intro (And.intro o7 o8) o9) o10 (by first | (simp only [L16ab.N, h1, h2, h3, h4, h5, cond_true, cond_false]; done) | (try unfold L16ab.N; try simp only [h1, cond_true, cond_false]; try simp only [h2, cond_true, cond_false]; try simp only [h3, cond_true, cond_false]; try simp only [h4, cond_true, cond_false]; try simp only [h5, cond_true, cond_false]; try rfl; done)) PopOk.same))))))))))))))))))))⟩
        | false =>
          try have := bd_len (by first | assumption | omega)
          try have := bd_sz (by first | assumption | omega) (by first | assumption | omega) (by first | assumption | omega)
          try have := IntWalk.i64_in (b14 + 1) (by omega)
          have o7 : (0 : Int) ≤ IntKind.i64.wrap (b14 + (1 : Int)) := by first | assumption | omega | (simp_all; done)
          have o8 : IntKind.i64.wrap (b14 + (1 : Int)) ≤ (↑n : Int) := by first | assumption | omega | (simp_all; done)
          have o9 : (↑bl12.length : Int) ≤ a13 := by first | assumption | omega | (simp only [List.length_append, List.length_cons, List.length_nil, List.length_map]; omega) | (simp_all; done)
          have o10 : ((↑n : Int) - IntKind.i64.wrap (b14 + (1 : Int))).toNat < ((↑n : Int) - b14).toNat := by first | assumption | omega | (simp_all; done)
          exact ⟨[.b true, .b false, .b true, .b true, .b true, .b true, .b true, .ret (AV.bool (r36.v (IntKind.i64.wrap (a13 + f b14.toNat)) j l m g)) ([AObj.row 1 bv12 (Col.ints IntKind.i64 bl12)]), .b true, .b false, .b false, .b false, .b false, .b false, .b false, .b false, .b false], kmp (by kernel_rfl) (And.intro h1 (And.intro (And.intro o0 o1) (And.intro h2 (And.intro h3 (And.intro h3 (And.intro h3 (And.intro h3 (And.intro h3 (And.intro (r36 (IntKind.i64.wrap (a13 + f b14.toNat)) (j) (l) (m) (g) o4 ([AObj.row 1 bv12 (Col.ints IntKind.i64 bl12)])) (And.intro h3 (And.intro h4 (And.intro h4 (And.intro h4 (And.intro h4 (And.intro h4 (And.intro h4 (And.intro h4 (And.intro (rfl : false = false) (L16ab.nx L j l n f m g c a13 (k_ := k_) (z_ := (bv12, bl12, b14)) ((bv12, bl12, IntKind.i64.wrap (b14 + 1))) (And.intro (And.intro o7 o8) o9) o10 (by first | (simp only [L16ab.N, h1, h2, h3, h4, cond_true, cond_false]; done) | (try unfold L16ab.N; try simp only [h1, cond_true, cond_false]; try simp only [h2, cond_true, cond_false]; try simp only [h3, cond_true, cond_false]; try simp only [h4, cond_true, cond_false]; try rfl; done)) PopOk.same)))))))))))))))))))⟩
      | false =>
        have h3p := of_decide_eq_false h3
        try have := bd_len (by first | assumption | omega)
        try have := bd_sz (by first | assumption | omega) (by first | assumption | omega) (by first | assumption | omega)
        try have := IntWalk.i64_in (b14 + 1) (by omega)
        have o7 : (0 : Int) ≤ IntKind.i64.wrap (b14 + (1 : Int)) := by first | assumption | omega | (simp_all; done)
        have o8 : IntKind.i64.wrap (b14 + (1 : Int)) ≤ (↑n : Int) := by first | assumption | omega | (simp_all; done)
        have o9 : (↑bl12.length : Int) ≤ a13 := by first | assumption | omega | (simp only [List.length_append, List.length_cons, List.length_nil, List.length_map]; omega) | (simp_all; done)
        have o10 : ((↑n : Int) - IntKind.i64.wrap (b14 + (1 : Int))).toNat < ((↑n : Int) - b14).toNat := by first | assumption | omega | (simp_all; done)
        exact ⟨[.b true, .b false, .b false, .b false, .b false, .b false, .b false, .b false, .b false, .b false, .b false, .b false, .b false, .b false, .b false, .b false], kmp (by kernel_rfl) (And.intro h1 (And.intro (And.intro o0 o1) (And.intro h2 (And.intro h3 (And.intro h3 (And.intro h3 (And.intro h3 (And.intro h3 (And.intro h3 (And.intro (rfl : false = false) (And.intro (rfl : false = false) (And.intro (rfl : false = false) (And.intro (rfl : false = false) (And.intro (rfl : false = false) (And.intro (rfl : false = false) (And.intro (rfl : false = false) (And.intro (rfl : false = false) (L16ab.nx L j l n f m g c a13 (k_ := k_) (z_ := (bv12, bl12, b14)) ((bv12, bl12, IntKind.i64.wrap (b14 + 1))) (And.intro (And.intro o7 o8) o9) o10 (by first | (simp only [L16ab.N, h1, h2, h3, cond_true, cond_false]; done) | (try unfold L16ab.N; try simp only [h1, cond_true, cond_false]; try simp only [h2, cond_true, cond_false]; try simp only [h3, cond_true, cond_false]; try rfl; done)) PopOk.same))))))))))))))))))⟩
  | false =>
    have h1p := of_decide_eq_false h1
    exact ⟨[.b false], kmp (by kernel_rfl) (And.intro h1 (L16ab.en L j l n f m g c a13 (k_ := k_) (z_ := (bv12, bl12, b14)) (.e2 (bv12) (bl12) : L16ab.O) (by first | (simp only [L16ab.N, h1, cond_true, cond_false]; done) | (try unfold L16ab.N; try simp only [h1, cond_true, cond_false]; try rfl; done)) PopOk.same))⟩
theorem L16ab.e0 (L : Int) (j : Int) (l : Int) (n : Nat) (f : Nat → Int) (hn : n ≤ 9223372036854775807) (m : Nat) (g : Nat → Int) (hm : m ≤ 9223372036854775807) (hk : LOk L j l n f m g) (c : Nat → Bool) (a13 : Int) (h0 : 0 ≤ a13) (h1 : a13 < L) (bv12 : Nat) (bl12 : List Int) (b14 : Int) (hinv : L16ab.inv L j l n f m g c a13 bv12 bl12 b14) (a0 : Nat) (a1 : List Int) (hN : L16ab.run L j l n f m g c a13 bv12 bl12 b14 = (.e0 a0 a1 : L16ab.O)) : LoopTo Try.prog (loopN Try.f16 1) (L16ab.T L j l n f m g c a13 bv12 bl12 b14) (L16ab.H L j l n f m g c a13 bv12 bl12 b14) (Exit.ret) (L16ab.X L j l n f m g c a13 (.e0 a0 a1 : L16ab.O)) (L16ab.XH L j l n f m g c a13 (.e0 a0 a1 : L16ab.O)) := by
  have h_ := L16ab.spec L j l n f hn m g hm hk c a13 h0 h1 ((((↑n : Int) - b14).toNat) + 1) (bv12, bl12, b14) hinv (Nat.lt_succ_self _)
  unfold L16ab.run at hN
  simp only [hN] at h_
  exact h_
theorem L16ab.e1 (L : Int) (j : Int) (l : Int) (n : Nat) (f : Nat → Int) (hn : n ≤ 9223372036854775807) (m : Nat) (g : Nat → Int) (hm : m ≤ 9223372036854775807) (hk : LOk L j l n f m g) (c : Nat → Bool) (a13 : Int) (h0 : 0 ≤ a13) (h1 : a13 < L) (bv12 : Nat) (bl12 : List Int) (b14 : Int) (hinv : L16ab.inv L j l n f m g c a13 bv12 bl12 b14) (a0 : Nat) (a1 : List Int) (a2 : Int) (hN : L16ab.run L j l n f m g c a13 bv12 bl12 b14 = (.e1 a0 a1 a2 : L16ab.O)) : LoopTo Try.prog (loopN Try.f16 1) (L16ab.T L j l n f m g c a13 bv12 bl12 b14) (L16ab.H L j l n f m g c a13 bv12 bl12 b14) (Exit.exit 2) (L16ab.X L j l n f m g c a13 (.e1 a0 a1 a2 : L16ab.O)) (L16ab.XH L j l n f m g c a13 (.e1 a0 a1 a2 : L16ab.O)) := by
  have h_ := L16ab.spec L j l n f hn m g hm hk c a13 h0 h1 ((((↑n : Int) - b14).toNat) + 1) (bv12, bl12, b14) hinv (Nat.lt_succ_self _)
  unfold L16ab.run at hN
  simp only [hN] at h_
  exact h_
theorem L16ab.e2 (L : Int) (j : Int) (l : Int) (n : Nat) (f : Nat → Int) (hn : n ≤ 9223372036854775807) (m : Nat) (g : Nat → Int) (hm : m ≤ 9223372036854775807) (hk : LOk L j l n f m g) (c : Nat → Bool) (a13 : Int) (h0 : 0 ≤ a13) (h1 : a13 < L) (bv12 : Nat) (bl12 : List Int) (b14 : Int) (hinv : L16ab.inv L j l n f m g c a13 bv12 bl12 b14) (a0 : Nat) (a1 : List Int) (hN : L16ab.run L j l n f m g c a13 bv12 bl12 b14 = (.e2 a0 a1 : L16ab.O)) : LoopTo Try.prog (loopN Try.f16 1) (L16ab.T L j l n f m g c a13 bv12 bl12 b14) (L16ab.H L j l n f m g c a13 bv12 bl12 b14) (Exit.exit 2) (L16ab.X L j l n f m g c a13 (.e2 a0 a1 : L16ab.O)) (L16ab.XH L j l n f m g c a13 (.e2 a0 a1 : L16ab.O)) := by
  have h_ := L16ab.spec L j l n f hn m g hm hk c a13 h0 h1 ((((↑n : Int) - b14).toNat) + 1) (bv12, bl12, b14) hinv (Nat.lt_succ_self _)
  unfold L16ab.run at hN
  simp only [hN] at h_
  exact h_
theorem L16ab.len2_1 (L : Int) (j : Int) (l : Int) (n : Nat) (f : Nat → Int) (m : Nat) (g : Nat → Int) (c : Nat → Bool) (a13 : Int) : ∀ (m_ : Nat) (bv12 : Nat) (bl12 : List Int) (b14 : Int) (a0_ : Nat) (a1_ : List Int), L16ab.N L j l n f m g c a13 m_ bv12 bl12 b14 = (.e2 a0_ a1_ : L16ab.O) → (a1_).length ≤ (bl12).length + m_ := by
  intro m_
  induction m_ with
  | zero =>
    intro bv12 bl12 b14 a0_ a1_ h_
    simp only [L16ab.N] at h_
    first | (cases h_; done) | (cases h_; first | exact Nat.zero_le _ | omega)
  | succ m_ ih_ =>
    intro bv12 bl12 b14 a0_ a1_ h_
    cases h1 : decide (b14 < (↑n : Int)) with
    | true =>
      have h1p := of_decide_eq_true h1
      cases h2 : IntKind.i64.wrap (a13 + f b14.toNat) == L with
      | true =>
        have h2p := eq_of_beq h2
        (simp only [L16ab.N, h1, h2, cond_true, cond_false] at h_; first | (have := ih_ _ _ _ _ _ h_; (try simp only [List.length_append, List.length_cons, List.length_nil, List.length_set] at this); omega) | (cases h_; done) | (cases h_; omega))
      | false =>
        have h2p := ne_of_beq_false h2
        cases h3 : decide (IntKind.i64.wrap (IntKind.i64.wrap (a13 + f b14.toNat) + j) < L) with
        | true =>
          have h3p := of_decide_eq_true h3
          cases h4 : r36.v (IntKind.i64.wrap (a13 + f b14.toNat)) j l m g with
          | true =>
            cases h5 : c (IntKind.i64.wrap (IntKind.i64.wrap (a13 + f b14.toNat) + j)).toNat with
            | true =>
              (simp only [L16ab.N, h1, h2, h3, h4, h5, cond_true, cond_false] at h_; first | (have := ih_ _ _ _ _ _ h_; (try simp only [List.length_append, List.length_cons, List.length_nil, List.length_set] at this); omega) | (cases h_; done) | (cases h_; omega))
            | false =>
              (simp only [L16ab.N, h1, h2, h3, h4, h5, cond_true, cond_false] at h_; first | (have := ih_ _ _ _ _ _ h_; (try simp only [List.length_append, List.length_cons, List.length_nil, List.length_set] at this); omega) | (cases h_; done) | (cases h_; omega))
          | false =>
            (simp only [L16ab.N, h1, h2, h3, h4, cond_true, cond_false] at h_; first | (have := ih_ _ _ _ _ _ h_; (try simp only [List.length_append, List.length_cons, List.length_nil, List.length_set] at this); omega) | (cases h_; done) | (cases h_; omega))
        | false =>
          have h3p := of_decide_eq_false h3
          (simp only [L16ab.N, h1, h2, h3, cond_true, cond_false] at h_; first | (have := ih_ _ _ _ _ _ h_; (try simp only [List.length_append, List.length_cons, List.length_nil, List.length_set] at this); omega) | (cases h_; done) | (cases h_; omega))
    | false =>
      have h1p := of_decide_eq_false h1
      (simp only [L16ab.N, h1, cond_true, cond_false] at h_; first | (have := ih_ _ _ _ _ _ h_; (try simp only [List.length_append, List.length_cons, List.length_nil, List.length_set] at this); omega) | (cases h_; done) | (cases h_; omega))
theorem L16ab.lenR2_1 (L : Int) (j : Int) (l : Int) (n : Nat) (f : Nat → Int) (m : Nat) (g : Nat → Int) (c : Nat → Bool) (a13 : Int) {bv12 : Nat} {bl12 : List Int} {b14 : Int} {a0_ : Nat} {a1_ : List Int} (h_ : L16ab.run L j l n f m g c a13 bv12 bl12 b14 = (.e2 a0_ a1_ : L16ab.O)) : (a1_).length ≤ (bl12).length + ((((↑n : Int) - b14).toNat) + 1) := L16ab.len2_1 L j l n f m g c a13 _ bv12 bl12 b14 a0_ a1_ h_
theorem L16ab.leq2_1 (L : Int) (j : Int) (l : Int) (n : Nat) (f : Nat → Int) (m : Nat) (g : Nat → Int) (c : Nat → Bool) (a13 : Int) : ∀ (m_ : Nat) (bv12 : Nat) (bl12 : List Int) (b14 : Int) (a0_ : Nat) (a1_ : List Int), L16ab.N L j l n f m g c a13 m_ bv12 bl12 b14 = (.e2 a0_ a1_ : L16ab.O) → (a1_).length = (bl12).length := by
  intro m_
  induction m_ with
  | zero =>
    intro bv12 bl12 b14 a0_ a1_ h_
    simp only [L16ab.N] at h_
    cases h_
    try rfl
  | succ m_ ih_ =>
    intro bv12 bl12 b14 a0_ a1_ h_
    cases h1 : decide (b14 < (↑n : Int)) with
    | true =>
      have h1p := of_decide_eq_true h1
      cases h2 : IntKind.i64.wrap (a13 + f b14.toNat) == L with
      | true =>
        have h2p := eq_of_beq h2
        (simp only [L16ab.N, h1, h2, cond_true, cond_false] at h_; first | (have q_ := ih_ _ _ _ _ _ h_; (try simp only [List.length_set] at *); omega) | (cases h_; done) | (cases h_; first | rfl | simp))
      | false =>
        have h2p := ne_of_beq_false h2
        cases h3 : decide (IntKind.i64.wrap (IntKind.i64.wrap (a13 + f b14.toNat) + j) < L) with
        | true =>
          have h3p := of_decide_eq_true h3
          cases h4 : r36.v (IntKind.i64.wrap (a13 + f b14.toNat)) j l m g with
          | true =>
            cases h5 : c (IntKind.i64.wrap (IntKind.i64.wrap (a13 + f b14.toNat) + j)).toNat with
            | true =>
              (simp only [L16ab.N, h1, h2, h3, h4, h5, cond_true, cond_false] at h_; first | (have q_ := ih_ _ _ _ _ _ h_; (try simp only [List.length_set] at *); omega) | (cases h_; done) | (cases h_; first | rfl | simp))
            | false =>
              (simp only [L16ab.N, h1, h2, h3, h4, h5, cond_true, cond_false] at h_; first | (have q_ := ih_ _ _ _ _ _ h_; (try simp only [List.length_set] at *); omega) | (cases h_; done) | (cases h_; first | rfl | simp))
          | false =>
            (simp only [L16ab.N, h1, h2, h3, h4, cond_true, cond_false] at h_; first | (have q_ := ih_ _ _ _ _ _ h_; (try simp only [List.length_set] at *); omega) | (cases h_; done) | (cases h_; first | rfl | simp))
        | false =>
          have h3p := of_decide_eq_false h3
          (simp only [L16ab.N, h1, h2, h3, cond_true, cond_false] at h_; first | (have q_ := ih_ _ _ _ _ _ h_; (try simp only [List.length_set] at *); omega) | (cases h_; done) | (cases h_; first | rfl | simp))
    | false =>
      have h1p := of_decide_eq_false h1
      (simp only [L16ab.N, h1, cond_true, cond_false] at h_; first | (have q_ := ih_ _ _ _ _ _ h_; (try simp only [List.length_set] at *); omega) | (cases h_; done) | (cases h_; first | rfl | simp))
theorem L16ab.leqR2_1 (L : Int) (j : Int) (l : Int) (n : Nat) (f : Nat → Int) (m : Nat) (g : Nat → Int) (c : Nat → Bool) (a13 : Int) {bv12 : Nat} {bl12 : List Int} {b14 : Int} {a0_ : Nat} {a1_ : List Int} (h_ : L16ab.run L j l n f m g c a13 bv12 bl12 b14 = (.e2 a0_ a1_ : L16ab.O)) : (a1_).length = (bl12).length := L16ab.leq2_1 L j l n f m g c a13 _ bv12 bl12 b14 a0_ a1_ h_

end Go.Proofs.Ytjdbmmilcihpoaa

/- Plain laws: one stone of the reference's layout. Conditions: none. -/
open Go
namespace Go.Proofs.Ytjdbmmilcihpoaa
set_option linter.unusedVariables false
set_option linter.unusedSimpArgs false
variable {L j l : Int} {n m k : Nat} {f g s : Nat → Int} {c : Nat → Bool}

noncomputable def goC (L j l : Int) (m : Nat) (g : Nat → Int) (c : Nat → Bool) (t : Nat) (s : Int) : Bool :=
  decide ((t : Int) + s = L) || (decide ((t : Int) + s + j < L) && (r34.v ((t : Int) + s) j l m g && c ((t : Int) + s + j).toNat))
structure COk (L j l : Int) (n : Nat) (f : Nat → Int) (m : Nat) (g : Nat → Int) (c : Nat → Bool) : Prop where
  val : ∀ t : Nat, (t : Int) < L → c t = anyN n fun i => goC L j l m g c t (f i)

theorem L16b_run (h : LOk L j l n f m g) (hm : m ≤ 9223372036854775807) {t : Nat} (ht : t ≤ 20000) : ∀ q b v al, b ≤ n → n - b < q →
    (∃ i, b ≤ i ∧ i < n ∧ goC L j l m g c t (f i) = true ∧ (∀ i', b ≤ i' → i' < i → goC L j l m g c t (f i') = false) ∧
      L16ab.N L j l n f m g c t q v al (b : Int) = if (t : Int) + f i = L then .e0 (v + 1) (al ++ [f i]) else .e1 (v + 1) (al ++ [f i]) ((t : Int) + f i + j)) ∨
    ((∀ i, b ≤ i → i < n → goC L j l m g c t (f i) = false) ∧ L16ab.N L j l n f m g c t q v al (b : Int) = .e2 v al) := by
  have hn := h.n2
  have hj1 := h.j1
  have hj2 := h.j2
  intro q
  induction q with
  | zero => intro b v al _ h; omega
  | succ q ih =>
    intro b v al hb hq
    simp only [L16ab.N, Int.toNat_natCast]
    by_cases hlt : b < n
    · have f1 := h.f1 b hlt
      have f2 := h.f2 b hlt
      simp only [free_same _ hm, i64_small (x := (t : Int) + f b) (by omega), i64_small (x := (t : Int) + f b + j) (by omega)]
      rw [decide_eq_true (show (b : Int) < n by omega), wrap_succ (n := n) (by omega) hlt]
      simp only [cond_true]
      have next (hg : goC L j l m g c t (f b) = false) : _ := ih (b + 1) v al hlt (by omega)
      have carry (hg : goC L j l m g c t (f b) = false) : (∃ i, b ≤ i ∧ i < n ∧ goC L j l m g c t (f i) = true ∧ (∀ i', b ≤ i' → i' < i → goC L j l m g c t (f i') = false) ∧
          L16ab.N L j l n f m g c t q v al ((b + 1 : Nat) : Int) = if (t : Int) + f i = L then .e0 (v + 1) (al ++ [f i]) else .e1 (v + 1) (al ++ [f i]) ((t : Int) + f i + j)) ∨
          ((∀ i, b ≤ i → i < n → goC L j l m g c t (f i) = false) ∧ L16ab.N L j l n f m g c t q v al ((b + 1 : Nat) : Int) = .e2 v al) := by
        rcases next hg with ⟨i, a1, a2, a3, a4, a5⟩ | ⟨a1, a2⟩
        · refine .inl ⟨i, by omega, a2, a3, fun i' h1 h2 => ?_, a5⟩
          by_cases e : i' = b
          · rw [e]; exact hg
          · exact a4 i' (by omega) h2
        · refine .inr ⟨fun i h1 h2 => ?_, a2⟩
          by_cases e : i = b
          · rw [e]; exact hg
          · exact a1 i (by omega) h2
      by_cases e : (t : Int) + f b = L
      · rw [show ((t : Int) + f b == L) = true from beq_iff_eq.2 e]
        exact .inl ⟨b, Nat.le_refl _, hlt, by unfold goC; rw [decide_eq_true e]; rfl, fun i' h1 h2 => by omega, by rw [if_pos e]; rfl⟩
      · rw [show ((t : Int) + f b == L) = false from beq_eq_false_iff_ne.2 e]
        simp only [cond_false]
        by_cases e2 : (t : Int) + f b + j < L
        · rw [decide_eq_true e2]
          simp only [cond_true]
          cases e3 : r34.v ((t : Int) + f b) j l m g with
          | false => simp only [cond_false]; exact carry (by unfold goC; rw [decide_eq_false e, e3]; simp)
          | true =>
            simp only [cond_true]
            cases e4 : c ((t : Int) + f b + j).toNat with
            | false => simp only [cond_false]; exact carry (by unfold goC; rw [decide_eq_false e, e4]; simp)
            | true => exact .inl ⟨b, Nat.le_refl _, hlt, by unfold goC; rw [decide_eq_true e2, e3, e4]; simp, fun i' h1 h2 => by omega, by rw [if_neg e]; rfl⟩
        · rw [decide_eq_false e2]
          simp only [cond_false]
          exact carry (by unfold goC; rw [decide_eq_false e, decide_eq_false e2]; rfl)
    · rw [decide_eq_false (by omega)]
      exact .inr ⟨fun i h1 h2 => by omega, rfl⟩

theorem run16 (L j l : Int) (n : Nat) (f : Nat → Int) (m : Nat) (g : Nat → Int) (c : Nat → Bool) (t : Nat) (v : Nat) (al : List Int) : L16ab.run L j l n f m g c t v al 0 = L16ab.N L j l n f m g c t ((((n : Int) - 0).toNat) + 1) v al ((0 : Nat) : Int) := rfl

theorem bd_e2 {a : Int} {v x : Nat} {al y : List Int} (hr : L16ab.run L j l n f m g c a v al 0 = .e2 x y) (hc : COk L j l n f m g c) (h : LOk L j l n f m g) (hm : m ≤ 9223372036854775807) (hi : (0 ≤ a ∧ a < L) ∧ c a.toNat = true ∧ (al.length : Int) ≤ a) : False := by
  obtain ⟨⟨h0, h1⟩, hg, _⟩ := hi
  obtain ⟨t, rfl⟩ := Int.eq_ofNat_of_zero_le h0
  have hl := h.l2
  rw [run16] at hr
  simp only [Int.toNat_natCast] at hg
  rcases L16b_run (c := c) h hm (t := t) (by omega) ((((n : Int) - 0).toNat) + 1) 0 v al (Nat.zero_le _) (by omega) with ⟨i, a1, a2, a3, a4, a5⟩ | ⟨a1, a2⟩
  · rw [a5] at hr; split at hr <;> cases hr
  · rw [hc.val t h1, anyN_false.2 fun i hi => a1 i (Nat.zero_le _) hi] at hg; cases hg
theorem bd_e1 {a a' : Int} {v x : Nat} {al y : List Int} (hr : L16ab.run L j l n f m g c a v al 0 = .e1 x y a') (hc : COk L j l n f m g c) (h : LOk L j l n f m g) (hm : m ≤ 9223372036854775807) (h0 : 0 ≤ a) (h1 : a < L) : (a < a' ∧ a' < L) ∧ c a'.toNat = true ∧ y.length = al.length + 1 := by
  obtain ⟨t, rfl⟩ := Int.eq_ofNat_of_zero_le h0
  have hl := h.l2
  have hj := h.j1
  rw [run16] at hr
  rcases L16b_run (c := c) h hm (t := t) (by omega) ((((n : Int) - 0).toNat) + 1) 0 v al (Nat.zero_le _) (by omega) with ⟨i, a1, a2, a3, a4, a5⟩ | ⟨a1, a2⟩
  · rw [a5] at hr
    by_cases e : (t : Int) + f i = L
    · rw [if_pos e] at hr; cases hr
    · rw [if_neg e] at hr
      cases hr
      have f1 := h.f1 i a2
      unfold goC at a3
      rw [decide_eq_false e] at a3
      simp only [Bool.false_or, Bool.and_eq_true, decide_eq_true_eq] at a3
      exact ⟨⟨by omega, a3.1⟩, a3.2.2, by simp⟩
  · rw [a2] at hr; cases hr
theorem bd_e0 {a : Int} {v x : Nat} {al y : List Int} (hr : L16ab.run L j l n f m g c a v al 0 = .e0 x y) (h : LOk L j l n f m g) (hm : m ≤ 9223372036854775807) (h0 : 0 ≤ a) (h1 : a < L) : y.length = al.length + 1 := by
  obtain ⟨t, rfl⟩ := Int.eq_ofNat_of_zero_le h0
  have hl := h.l2
  rw [run16] at hr
  rcases L16b_run (c := c) h hm (t := t) (by omega) ((((n : Int) - 0).toNat) + 1) 0 v al (Nat.zero_le _) (by omega) with ⟨i, a1, a2, a3, a4, a5⟩ | ⟨a1, a2⟩
  · rw [a5] at hr
    by_cases e : (t : Int) + f i = L
    · rw [if_pos e] at hr; cases hr; simp
    · rw [if_neg e] at hr; cases hr
  · rw [a2] at hr; cases hr
end Go.Proofs.Ytjdbmmilcihpoaa

/- the wall seat's contracts: the reference of Layout. -/
open Go
namespace Go.Proofs.Ytjdbmmilcihpoaa
set_option linter.unusedSimpArgs false
set_option linter.unusedVariables false
set_option maxHeartbeats 0
set_option maxRecDepth 100000
inductive L16a.O where
  | e0 (a0 : Nat) (a1 : List Int)
noncomputable def L16a.T (L : Int) (j : Int) (l : Int) (n : Nat) (f : Nat → Int) (m : Nat) (g : Nat → Int) (c : Nat → Bool) (a13 : Int) (bv12 : Nat) (bl12 : List Int) : List AV := mkT 80 [(0, AV.int IntKind.i64 L), (1, AV.int IntKind.i64 j), (2, AV.int IntKind.i64 l), (3, ivs n f), (4, ivs m g), (11, bvs (L + 1).toNat c), (12, AV.ms 0 bv12 1 0 bl12.length), (13, AV.int IntKind.i64 a13)]
noncomputable def L16a.H (L : Int) (j : Int) (l : Int) (n : Nat) (f : Nat → Int) (m : Nat) (g : Nat → Int) (c : Nat → Bool) (a13 : Int) (bv12 : Nat) (bl12 : List Int) : AHeap := [AObj.row 1 bv12 (Col.ints IntKind.i64 bl12)]
def L16a.inv (L : Int) (j : Int) (l : Int) (n : Nat) (f : Nat → Int) (m : Nat) (g : Nat → Int) (c : Nat → Bool) (a13 : Int) (bv12 : Nat) (bl12 : List Int) : Prop := (0 ≤ a13 ∧ a13 < L) ∧ c a13.toNat = true ∧ (↑bl12.length : Int) ≤ a13
noncomputable def L16a.mu (L : Int) (j : Int) (l : Int) (n : Nat) (f : Nat → Int) (m : Nat) (g : Nat → Int) (c : Nat → Bool) (a13 : Int) (bv12 : Nat) (bl12 : List Int) : Nat := (L - a13).toNat
noncomputable def L16a.E : L16a.O → Exit
  | .e0 a0 a1 => Exit.ret
noncomputable def L16a.X (L : Int) (j : Int) (l : Int) (n : Nat) (f : Nat → Int) (m : Nat) (g : Nat → Int) (c : Nat → Bool) : L16a.O → List AV
  | .e0 a0 a1 => mkT 80 [(10, (AV.ms 0 a0 1 0 (List.length a1)))]
noncomputable def L16a.XH (L : Int) (j : Int) (l : Int) (n : Nat) (f : Nat → Int) (m : Nat) (g : Nat → Int) (c : Nat → Bool) : L16a.O → AHeap
  | .e0 a0 a1 => ((AObj.row 1 a0 (Col.ints IntKind.i64 a1)) :: ([]))
noncomputable def L16a.N (L : Int) (j : Int) (l : Int) (n : Nat) (f : Nat → Int) (m : Nat) (g : Nat → Int) (c : Nat → Bool) : Nat → Int → Nat → (List Int) → L16a.O
  | 0, _, _, _ => .e0 default default
  | k_ + 1, a13, bv12, bl12 => (match L16ab.run L j l n f m g c a13 bv12 bl12 0 with | .e0 h1d0 h1d1 => (.e0 (h1d0) (h1d1)) | .e1 h1d0 h1d1 h1d2 => (L16a.N L j l n f m g c k_ (h1d2) (h1d0) (h1d1)) | .e2 h1d0 h1d1 => (L16a.N L j l n f m g c k_ (a13) (h1d0) (h1d1)) )
noncomputable def L16a.run (L : Int) (j : Int) (l : Int) (n : Nat) (f : Nat → Int) (m : Nat) (g : Nat → Int) (c : Nat → Bool) (a13 : Int) (bv12 : Nat) (bl12 : List Int) : L16a.O := L16a.N L j l n f m g c (((L - a13).toNat) + 1) a13 bv12 bl12
def L16a.Next (L : Int) (j : Int) (l : Int) (n : Nat) (f : Nat → Int) (m : Nat) (g : Nat → Int) (c : Nat → Bool) (k_ : Nat) (z_ : Int × Nat × (List Int)) (T_ : List AV) (h_ : AHeap) : Prop := LNextP (fun (z_ : Int × Nat × (List Int)) => L16a.T L j l n f m g c z_.1 z_.2.1 z_.2.2) (fun (z_ : Int × Nat × (List Int)) => L16a.H L j l n f m g c z_.1 z_.2.1 z_.2.2) (fun (z_ : Int × Nat × (List Int)) => L16a.inv L j l n f m g c z_.1 z_.2.1 z_.2.2) (fun (z_ : Int × Nat × (List Int)) => L16a.mu L j l n f m g c z_.1 z_.2.1 z_.2.2) (fun (k_ : Nat) (z_ : Int × Nat × (List Int)) => L16a.N L j l n f m g c k_ z_.1 z_.2.1 z_.2.2) k_ z_ T_ h_
def L16a.End (L : Int) (j : Int) (l : Int) (n : Nat) (f : Nat → Int) (m : Nat) (g : Nat → Int) (c : Nat → Bool) (k_ : Nat) (z_ : Int × Nat × (List Int)) (e_ : Exit) (T_ : List AV) (h_ : AHeap) : Prop := LEndP (fun (z_ : Int × Nat × (List Int)) => L16a.H L j l n f m g c z_.1 z_.2.1 z_.2.2) (fun (k_ : Nat) (z_ : Int × Nat × (List Int)) => L16a.N L j l n f m g c k_ z_.1 z_.2.1 z_.2.2) L16a.E (L16a.X L j l n f m g c) (L16a.XH L j l n f m g c) k_ z_ e_ T_ h_
theorem L16a.nx (L : Int) (j : Int) (l : Int) (n : Nat) (f : Nat → Int) (m : Nat) (g : Nat → Int) (c : Nat → Bool) {k_ : Nat} {z_ : Int × Nat × (List Int)} {h_ : AHeap} (s_ : Int × Nat × (List Int)) (h1 : L16a.inv L j l n f m g c s_.1 s_.2.1 s_.2.2) (h2 : L16a.mu L j l n f m g c s_.1 s_.2.1 s_.2.2 < L16a.mu L j l n f m g c z_.1 z_.2.1 z_.2.2) (h3 : L16a.N L j l n f m g c k_ s_.1 s_.2.1 s_.2.2 = L16a.N L j l n f m g c (k_ + 1) z_.1 z_.2.1 z_.2.2) (h4 : PopOk (L16a.H L j l n f m g c z_.1 z_.2.1 z_.2.2) h_ (L16a.T L j l n f m g c s_.1 s_.2.1 s_.2.2) (L16a.H L j l n f m g c s_.1 s_.2.1 s_.2.2)) : LNextP (fun (z_ : Int × Nat × (List Int)) => L16a.T L j l n f m g c z_.1 z_.2.1 z_.2.2) (fun (z_ : Int × Nat × (List Int)) => L16a.H L j l n f m g c z_.1 z_.2.1 z_.2.2) (fun (z_ : Int × Nat × (List Int)) => L16a.inv L j l n f m g c z_.1 z_.2.1 z_.2.2) (fun (z_ : Int × Nat × (List Int)) => L16a.mu L j l n f m g c z_.1 z_.2.1 z_.2.2) (fun (k_ : Nat) (z_ : Int × Nat × (List Int)) => L16a.N L j l n f m g c k_ z_.1 z_.2.1 z_.2.2) k_ z_ (L16a.T L j l n f m g c s_.1 s_.2.1 s_.2.2) h_ := LNextP.mk (Tm := (fun (z_ : Int × Nat × (List Int)) => L16a.T L j l n f m g c z_.1 z_.2.1 z_.2.2)) (Hp := (fun (z_ : Int × Nat × (List Int)) => L16a.H L j l n f m g c z_.1 z_.2.1 z_.2.2)) (inv := (fun (z_ : Int × Nat × (List Int)) => L16a.inv L j l n f m g c z_.1 z_.2.1 z_.2.2)) (mu := (fun (z_ : Int × Nat × (List Int)) => L16a.mu L j l n f m g c z_.1 z_.2.1 z_.2.2)) (l := (fun (k_ : Nat) (z_ : Int × Nat × (List Int)) => L16a.N L j l n f m g c k_ z_.1 z_.2.1 z_.2.2)) s_ h1 h2 h3 h4
theorem L16a.en (L : Int) (j : Int) (l : Int) (n : Nat) (f : Nat → Int) (m : Nat) (g : Nat → Int) (c : Nat → Bool) {k_ : Nat} {z_ : Int × Nat × (List Int)} {h_ : AHeap} (o_ : L16a.O) (h3 : L16a.N L j l n f m g c (k_ + 1) z_.1 z_.2.1 z_.2.2 = o_) (h4 : PopOk (L16a.H L j l n f m g c z_.1 z_.2.1 z_.2.2) h_ (L16a.X L j l n f m g c o_) (L16a.XH L j l n f m g c o_)) : LEndP (fun (z_ : Int × Nat × (List Int)) => L16a.H L j l n f m g c z_.1 z_.2.1 z_.2.2) (fun (k_ : Nat) (z_ : Int × Nat × (List Int)) => L16a.N L j l n f m g c k_ z_.1 z_.2.1 z_.2.2) L16a.E (L16a.X L j l n f m g c) (L16a.XH L j l n f m g c) k_ z_ (L16a.E o_) (L16a.X L j l n f m g c o_) h_ := LEndP.mk (Hp := (fun (z_ : Int × Nat × (List Int)) => L16a.H L j l n f m g c z_.1 z_.2.1 z_.2.2)) (l := (fun (k_ : Nat) (z_ : Int × Nat × (List Int)) => L16a.N L j l n f m g c k_ z_.1 z_.2.1 z_.2.2)) (oE := L16a.E) (oT := L16a.X L j l n f m g c) (oH := L16a.XH L j l n f m g c) o_ h3 h4
theorem L16a.spec (L : Int) (j : Int) (l : Int) (n : Nat) (f : Nat → Int) (hn : n ≤ 9223372036854775807) (m : Nat) (g : Nat → Int) (hm : m ≤ 9223372036854775807) (hk : LOk L j l n f m g) (c : Nat → Bool) (hc : COk L j l n f m g c) (k_ : Nat) (z_ : Int × Nat × (List Int)) (hi_ : L16a.inv L j l n f m g c z_.1 z_.2.1 z_.2.2) (hm_ : L16a.mu L j l n f m g c z_.1 z_.2.1 z_.2.2 < k_) : LoopTo Try.prog (loopN Try.f16 0) (L16a.T L j l n f m g c z_.1 z_.2.1 z_.2.2) (L16a.H L j l n f m g c z_.1 z_.2.1 z_.2.2) (L16a.E (L16a.N L j l n f m g c k_ z_.1 z_.2.1 z_.2.2)) (L16a.X L j l n f m g c (L16a.N L j l n f m g c k_ z_.1 z_.2.1 z_.2.2)) (L16a.XH L j l n f m g c (L16a.N L j l n f m g c k_ z_.1 z_.2.1 z_.2.2)) := by
  refine LoopTo.fuelP mix (fun (z_ : Int × Nat × (List Int)) => L16a.T L j l n f m g c z_.1 z_.2.1 z_.2.2) (fun (z_ : Int × Nat × (List Int)) => L16a.H L j l n f m g c z_.1 z_.2.1 z_.2.2) (fun (z_ : Int × Nat × (List Int)) => L16a.inv L j l n f m g c z_.1 z_.2.1 z_.2.2) (fun (z_ : Int × Nat × (List Int)) => L16a.mu L j l n f m g c z_.1 z_.2.1 z_.2.2) (fun (k_ : Nat) (z_ : Int × Nat × (List Int)) => L16a.N L j l n f m g c k_ z_.1 z_.2.1 z_.2.2) L16a.E (L16a.X L j l n f m g c) (L16a.XH L j l n f m g c) (others 80 [0, 1, 2, 3, 4, 11, 12, 13]) (others 80 [10]) (others 80 []) ?_ k_ z_ hi_ hm_
  clear hm_ hi_ z_ k_
  intro k_ z_ hinv hmu
  obtain ⟨a13, bv12, bl12⟩ := z_
  have hinv : (0 ≤ a13 ∧ a13 < L) ∧ c a13.toNat = true ∧ (↑bl12.length : Int) ≤ a13 := hinv
  have hmu : ((L - a13).toNat) < k_ + 1 := hmu
  try have := bd_len (by first | assumption | omega)
  try have := bd_e2 (by first | assumption | omega) (by first | assumption | omega) (by first | assumption | omega) (by first | assumption | omega) (by first | assumption | omega)
  try have := bd_e1 (by first | assumption | omega) (by first | assumption | omega) (by first | assumption | omega) (by first | assumption | omega) (by first | assumption | omega) (by first | assumption | omega)
  try have := bd_e0 (by first | assumption | omega) (by first | assumption | omega) (by first | assumption | omega) (by first | assumption | omega) (by first | assumption | omega)
  try have := L16ab.lenR2_1 _ _ _ _ _ _ _ _ _ (by assumption); (try simp only [List.length_nil] at this)
  try have := L16ab.leqR2_1 _ _ _ _ _ _ _ _ _ (by assumption); (try simp only [List.length_replicate] at this)
  have o0 : n ≤ (9223372036854775807 : Nat) := by first | assumption | omega | (simp_all; done)
  have o1 : m ≤ (9223372036854775807 : Nat) := by first | assumption | omega | (simp_all; done)
  have o2 : LOk L j l n f m g := by first | assumption | (simp_all; done)
  have o3 : (0 : Int) ≤ a13 := by first | assumption | omega | (simp_all; done)
  have o4 : a13 < L := by first | assumption | omega | (simp_all; done)
  have o5 : (0 : Int) ≤ (↑n : Int) := by first | assumption | omega | (simp_all; done)
  have o6 : (↑bl12.length : Int) ≤ a13 := by first | assumption | omega | (simp only [List.length_append, List.length_cons, List.length_nil, List.length_map]; omega) | (simp_all; done)
  cases h1 : L16ab.run L j l n f m g c a13 bv12 bl12 0 with
  | e0 h1d0 h1d1 =>
    exact ⟨[.loop (others 80 [0, 1, 2, 3, 4, 11, 12, 13, 14]) (Exit.ret) (L16ab.X L j l n f m g c a13 (L16ab.O.e0 h1d0 h1d1)) (L16ab.XH L j l n f m g c a13 (L16ab.O.e0 h1d0 h1d1))], kmp (by kernel_rfl) (And.intro (L16ab.e0 (L) (j) (l) (n) (f) o0 (m) (g) o1 o2 (c) (a13) o3 o4 (bv12) (bl12) (0) (And.intro (And.intro (show (0 : Int) ≤ (0 : Int) by first | decide | exact Int.NonNeg.mk _) o5) o6) h1d0 h1d1 h1) (L16a.en L j l n f m g c (k_ := k_) (z_ := (a13, bv12, bl12)) (.e0 (h1d0) (h1d1) : L16a.O) (by first | (simp only [L16a.N, h1, cond_true, cond_false]; done) | (try unfold L16a.N; try simp only [h1, cond_true, cond_false]; try rfl; done)) PopOk.same))⟩
  | e1 h1d0 h1d1 h1d2 =>
    try have := bd_len (by first | assumption | omega)
    try have := bd_e2 (by first | assumption | omega) (by first | assumption | omega) (by first | assumption | omega) (by first | assumption | omega) (by first | assumption | omega)
    try have := bd_e1 (by first | assumption | omega) (by first | assumption | omega) (by first | assumption | omega) (by first | assumption | omega) (by first | assumption | omega) (by first | assumption | omega)
    try have := bd_e0 (by first | assumption | omega) (by first | assumption | omega) (by first | assumption | omega) (by first | assumption | omega) (by first | assumption | omega)
    try have := L16ab.lenR2_1 _ _ _ _ _ _ _ _ _ (by assumption); (try simp only [List.length_nil] at this)
    try have := L16ab.leqR2_1 _ _ _ _ _ _ _ _ _ (by assumption); (try simp only [List.length_replicate] at this)
    have o7 : (0 : Int) ≤ h1d2 := by first | assumption | omega | (simp_all; done)
    have o8 : h1d2 < L := by first | assumption | omega | (simp_all; done)
    have o9 : c h1d2.toNat = true := by first | assumption | omega | (simp_all; done)
    have o10 : (↑h1d1.length : Int) ≤ h1d2 := by first | assumption | omega | (simp only [List.length_append, List.length_cons, List.length_nil, List.length_map]; omega) | (simp_all; done)
    have o11 : (L - h1d2).toNat < (L - a13).toNat := by first | assumption | omega | (simp_all; done)
    exact ⟨[.loop (others 80 [0, 1, 2, 3, 4, 11, 12, 13, 14]) (Exit.exit 2) (L16ab.X L j l n f m g c a13 (L16ab.O.e1 h1d0 h1d1 h1d2)) (L16ab.XH L j l n f m g c a13 (L16ab.O.e1 h1d0 h1d1 h1d2))], kmp (by kernel_rfl) (And.intro (L16ab.e1 (L) (j) (l) (n) (f) o0 (m) (g) o1 o2 (c) (a13) o3 o4 (bv12) (bl12) (0) (And.intro (And.intro (show (0 : Int) ≤ (0 : Int) by first | decide | exact Int.NonNeg.mk _) o5) o6) h1d0 h1d1 h1d2 h1) (L16a.nx L j l n f m g c (k_ := k_) (z_ := (a13, bv12, bl12)) ((h1d2, h1d0, h1d1)) (And.intro (And.intro o7 o8) (And.intro o9 o10)) o11 (by first | (simp only [L16a.N, h1, cond_true, cond_false]; done) | (try unfold L16a.N; try simp only [h1, cond_true, cond_false]; try rfl; done)) PopOk.same))⟩
  | e2 h1d0 h1d1 =>
    try have := bd_len (by first | assumption | omega)
    try have := bd_e2 (by first | assumption | omega) (by first | assumption | omega) (by first | assumption | omega) (by first | assumption | omega) (by first | assumption | omega)
    try have := bd_e1 (by first | assumption | omega) (by first | assumption | omega) (by first | assumption | omega) (by first | assumption | omega) (by first | assumption | omega) (by first | assumption | omega)
    try have := bd_e0 (by first | assumption | omega) (by first | assumption | omega) (by first | assumption | omega) (by first | assumption | omega) (by first | assumption | omega)
    try have := L16ab.lenR2_1 _ _ _ _ _ _ _ _ _ (by assumption); (try simp only [List.length_nil] at this)
    try have := L16ab.leqR2_1 _ _ _ _ _ _ _ _ _ (by assumption); (try simp only [List.length_replicate] at this)
    have o12 : c a13.toNat = true := by first | assumption | omega | (simp_all; done)
    have o13 : (↑h1d1.length : Int) ≤ a13 := by first | assumption | omega | (simp only [List.length_append, List.length_cons, List.length_nil, List.length_map]; omega) | (simp_all; done)
    have o14 : (L - a13).toNat < (L - a13).toNat := by first | assumption | omega | (simp_all; done)
    exact ⟨[.loop (others 80 [0, 1, 2, 3, 4, 11, 12, 13, 14]) (Exit.exit 2) (L16ab.X L j l n f m g c a13 (L16ab.O.e2 h1d0 h1d1)) (L16ab.XH L j l n f m g c a13 (L16ab.O.e2 h1d0 h1d1))], kmp (by kernel_rfl) (And.intro (L16ab.e2 (L) (j) (l) (n) (f) o0 (m) (g) o1 o2 (c) (a13) o3 o4 (bv12) (bl12) (0) (And.intro (And.intro (show (0 : Int) ≤ (0 : Int) by first | decide | exact Int.NonNeg.mk _) o5) o6) h1d0 h1d1 h1) (L16a.nx L j l n f m g c (k_ := k_) (z_ := (a13, bv12, bl12)) ((a13, h1d0, h1d1)) (And.intro (And.intro o3 o4) (And.intro o12 o13)) o14 (by first | (simp only [L16a.N, h1, cond_true, cond_false]; done) | (try unfold L16a.N; try simp only [h1, cond_true, cond_false]; try rfl; done)) PopOk.same))⟩
theorem L16a.e0 (L : Int) (j : Int) (l : Int) (n : Nat) (f : Nat → Int) (hn : n ≤ 9223372036854775807) (m : Nat) (g : Nat → Int) (hm : m ≤ 9223372036854775807) (hk : LOk L j l n f m g) (c : Nat → Bool) (hc : COk L j l n f m g c) (a13 : Int) (bv12 : Nat) (bl12 : List Int) (hinv : L16a.inv L j l n f m g c a13 bv12 bl12) (a0 : Nat) (a1 : List Int) (hN : L16a.run L j l n f m g c a13 bv12 bl12 = (.e0 a0 a1 : L16a.O)) : LoopTo Try.prog (loopN Try.f16 0) (L16a.T L j l n f m g c a13 bv12 bl12) (L16a.H L j l n f m g c a13 bv12 bl12) (Exit.ret) (L16a.X L j l n f m g c (.e0 a0 a1 : L16a.O)) (L16a.XH L j l n f m g c (.e0 a0 a1 : L16a.O)) := by
  have h_ := L16a.spec L j l n f hn m g hm hk c hc (((L - a13).toNat) + 1) (a13, bv12, bl12) hinv (Nat.lt_succ_self _)
  unfold L16a.run at hN
  simp only [hN] at h_
  exact h_

end Go.Proofs.Ytjdbmmilcihpoaa

/- Plain laws: which positions can be gone on from; Layout is as its reference. Conditions: none. -/
open Go
namespace Go.Proofs.Ytjdbmmilcihpoaa
set_option linter.unusedVariables false
set_option linter.unusedSimpArgs false
variable {L j l : Int} {n m k : Nat} {f g s : Nat → Int} {xs : List Int} {c : Nat → Bool}

theorem bgetD_set {br : List Bool} {t i : Nat} {v : Bool} (hc : t < br.length) : (br.set t v).getD i false = if i = t then v else br.getD i false := by
  rw [List.getD_eq_getElem?_getD, List.getD_eq_getElem?_getD, List.getElem?_set]
  by_cases e : t = i
  · subst e; rw [if_pos rfl, if_pos hc, if_pos rfl]; rfl
  · rw [if_neg e, if_neg fun h => e h.symm]

theorem any_fs (h : LOk L j l n f m g) (hf : FOk L j l n f m g xs) {t : Nat} (ht : (t : Int) < L) : anyN n (fun i => goX L j l m g xs t (f i)) = decide (xs.getD t 0 > 0) := by
  rw [hf.val t ht]
  rcases fs_cases (goX L j l m g xs t) f n 0 with ⟨a1, a2⟩ | ⟨i, a1, a2, a3, a4, _⟩
  · rw [a1, anyN_false.2 fun i hi => a2 i (Nat.zero_le _) (by omega)]; rfl
  · rw [a3, anyN_true.2 ⟨i, by omega, a4⟩]
    have := h.f1 i (by omega)
    exact (decide_eq_true (by omega)).symm
theorem goC_goX {t : Nat} (hj : 0 ≤ j) {s : Int} (hs : 1 ≤ s) (ht : (t : Int) < L) (hx : ∀ t' : Nat, t < t' → (t' : Int) < L → c t' = decide (xs.getD t' 0 > 0)) : goC L j l m g c t s = goX L j l m g xs t s := by
  unfold goC goX
  by_cases e : (t : Int) + s + j < L
  · rw [hx ((t : Int) + s + j).toNat (by omega) (by omega)]
    cases decide ((t : Int) + s = L) <;> cases decide ((t : Int) + s + j < L) <;> cases r34.v ((t : Int) + s) j l m g <;> cases decide (xs.getD ((t : Int) + s + j).toNat 0 > 0) <;> rfl
  · rw [decide_eq_false e]; simp

theorem L38b_run (h : LOk L j l n f m g) (hm : m ≤ 9223372036854775807) {t : Nat} (ht : (t : Int) < L) : ∀ q b (br : List Bool), b ≤ n → n - b < q → br.length = (L + 1).toNat → (∀ t' : Nat, t < t' → (t' : Int) < L → br.getD t' false = decide (xs.getD t' 0 > 0)) →
    ∃ br', L38ab.N L j l n f m g t q (b : Int) br = .e0 br' ∧ br'.length = (L + 1).toNat ∧ (∀ t', t' ≠ t → br'.getD t' false = br.getD t' false) ∧ br'.getD t false = (br.getD t false || (List.range' b (n - b)).any fun i => goX L j l m g xs t (f i)) := by
  have hn := h.n2
  have hj1 := h.j1
  have hj2 := h.j2
  have hl2 := h.l2
  intro q
  induction q with
  | zero => intro b br _ h; omega
  | succ q ih =>
    intro b br hb hq hl hx
    have hlt0 : t < br.length := by omega
    simp only [L38ab.N, Int.toNat_natCast, Nat.zero_add]
    by_cases hlt : b < n
    · have f1 := h.f1 b hlt
      have f2 := h.f2 b hlt
      simp only [free_same _ hm, i64_small (x := (t : Int) + f b) (by omega), i64_small (x := (t : Int) + f b + j) (by omega)]
      rw [decide_eq_true (show (b : Int) < n by omega), wrap_succ (n := n) (by omega) hlt, show n - b = (n - (b + 1)) + 1 by omega, List.range'_succ]
      simp only [cond_true, List.any_cons]
      have keep (hg : goX L j l m g xs t (f b) = false) : ∃ br', L38ab.N L j l n f m g t q ((b + 1 : Nat) : Int) br = .e0 br' ∧ br'.length = (L + 1).toNat ∧ (∀ t', t' ≠ t → br'.getD t' false = br.getD t' false) ∧ br'.getD t false = (br.getD t false || (goX L j l m g xs t (f b) || (List.range' (b + 1) (n - (b + 1))).any fun i => goX L j l m g xs t (f i))) := by
        obtain ⟨br', e1, e2, e3, e4⟩ := ih (b + 1) br hlt (by omega) hl hx
        exact ⟨br', e1, e2, e3, by rw [e4, hg]; simp⟩
      have put (hg : goX L j l m g xs t (f b) = true) : ∃ br', L38ab.N L j l n f m g t q ((b + 1 : Nat) : Int) (br.set t true) = .e0 br' ∧ br'.length = (L + 1).toNat ∧ (∀ t', t' ≠ t → br'.getD t' false = br.getD t' false) ∧ br'.getD t false = (br.getD t false || (goX L j l m g xs t (f b) || (List.range' (b + 1) (n - (b + 1))).any fun i => goX L j l m g xs t (f i))) := by
        obtain ⟨br', e1, e2, e3, e4⟩ := ih (b + 1) (br.set t true) hlt (by omega) (by rw [List.length_set]; exact hl) (fun t' h1 h2 => by rw [bgetD_set hlt0, if_neg (by omega)]; exact hx t' h1 h2)
        refine ⟨br', e1, e2, fun t' ht' => by rw [e3 t' ht', bgetD_set hlt0, if_neg ht'], ?_⟩
        rw [e4, hg, bgetD_set hlt0, if_pos rfl]; simp
      by_cases e : (t : Int) + f b = L
      · rw [show ((t : Int) + f b == L) = true from beq_iff_eq.2 e]
        exact put (by unfold goX; rw [decide_eq_true e]; rfl)
      · rw [show ((t : Int) + f b == L) = false from beq_eq_false_iff_ne.2 e]
        simp only [cond_false]
        by_cases e2 : (t : Int) + f b + j < L
        · rw [decide_eq_true e2, hx ((t : Int) + f b + j).toNat (by omega) (by omega)]
          simp only [cond_true]
          cases e3 : r34.v ((t : Int) + f b) j l m g with
          | false => simp only [cond_false]; exact keep (by unfold goX; rw [decide_eq_false e, e3]; simp)
          | true =>
            simp only [cond_true]
            cases e4 : decide (xs.getD ((t : Int) + f b + j).toNat 0 > 0) with
            | false => simp only [cond_false]; exact keep (by unfold goX; rw [decide_eq_false e, e4]; simp)
            | true => simp only [cond_true]; exact put (by unfold goX; rw [decide_eq_true e2, e3, e4]; simp)
        · rw [decide_eq_false e2]
          simp only [cond_false]
          exact keep (by unfold goX; rw [decide_eq_false e, decide_eq_false e2]; rfl)
    · rw [decide_eq_false (by omega), show n - b = 0 by omega]
      exact ⟨br, rfl, hl, fun _ _ => rfl, by simp⟩

theorem L38_run (h : LOk L j l n f m g) (hm : m ≤ 9223372036854775807) (hf : FOk L j l n f m g xs) : ∀ (q c : Nat) (br : List Bool), (c : Int) ≤ L → c < q → br.length = (L + 1).toNat → (∀ t, t < c → br.getD t false = false) → (∀ t : Nat, c ≤ t → (t : Int) < L → br.getD t false = decide (xs.getD t 0 > 0)) →
    ∃ br', L38a.N L j l n f m g q ((c : Int) - 1) br = .e0 br' ∧ ∀ t : Nat, (t : Int) < L → br'.getD t false = decide (xs.getD t 0 > 0) := by
  have hl1 := h.l1
  have hl2 := h.l2
  intro q
  induction q with
  | zero => intro c br _ h; omega
  | succ q ih =>
    intro c br hc hq hl hz hv
    simp only [L38a.N]
    cases c with
    | zero =>
      rw [decide_eq_false (by omega)]
      exact ⟨br, rfl, fun t ht => hv t (Nat.zero_le _) ht⟩
    | succ c =>
      rw [show ((c + 1 : Nat) : Int) - 1 = (c : Int) by omega, decide_eq_true (show (c : Int) ≥ 0 by omega)]
      obtain ⟨br', e1, e2, e3, e4⟩ := L38b_run (xs := xs) h hm (t := c) (by omega) (((n : Int) - 0).toNat + 1) 0 br (Nat.zero_le _) (by omega) hl (fun t' h1 h2 => hv t' (by omega) h2)
      have e : L38ab.run L j l n f m g (c : Int) 0 br = .e0 br' := e1
      rw [e, i64_small (x := (c : Int) - 1) (by omega)]
      simp only [cond_true]
      refine ih c br' (by omega) (by omega) e2 (fun t ht => by rw [e3 t (by omega)]; exact hz t (by omega)) (fun t h1 h2 => ?_)
      by_cases e5 : t = c
      · subst e5
        rw [e4, hz t (by omega), ← any_fs h hf h2]
        unfold anyN
        rw [List.range_eq_range']; simp
      · rw [e3 t e5]; exact hv t (by omega) h2

/-- The table of sizes and the list of positions. -/
noncomputable def can (L j l : Int) (n : Nat) (f : Nat → Int) (m : Nat) (g : Nat → Int) (i : Nat) : Bool := (r38.v1 L j l n f m g).getD i false
theorem can_eq (h : LOk L j l n f m g) (hm : m ≤ 9223372036854775807) (hf : FOk L j l n f m g xs) {t : Nat} (ht : (t : Int) < L) : can L j l n f m g t = decide (xs.getD t 0 > 0) := by
  have hl1 := h.l1
  have hl2 := h.l2
  obtain ⟨br, e, hb⟩ := L38_run h hm hf ((L - 1 - (0 - 1)).toNat + 1) L.toNat (List.replicate (L + 1).toNat false) (by omega) (by omega) (by simp) (fun t _ => by simp [List.getD_eq_getElem?_getD, List.getElem?_replicate]; split <;> rfl) (fun t h1 h2 => by omega)
  have e1 : L38a.run L j l n f m g (IntKind.i64.wrap (L - 1)) (List.replicate (IntKind.i64.wrap (L + 1)).toNat false) = .e0 br := by
    rw [i64_small (x := L - 1) (by omega), i64_small (x := L + 1) (by omega)]
    rw [show ((L.toNat : Nat) : Int) - 1 = L - 1 by omega] at e
    exact e
  unfold can r38.v1
  rw [e1]
  exact hb t ht
theorem cok (h : LOk L j l n f m g) (hm : m ≤ 9223372036854775807) : COk L j l n f m g (can L j l n f m g) := by
  obtain ⟨xs, _, hf⟩ := fok h
  refine ⟨fun t ht => ?_⟩
  rw [can_eq h hm hf ht, ← any_fs h hf ht]
  exact anyN_congr fun i hi => (goC_goX h.j1 (h.f1 i hi) ht fun t' h1 h2 => can_eq h hm hf h2).symm
end Go.Proofs.Ytjdbmmilcihpoaa

/- the wall seat's contracts: the reference of Layout, whole. -/
open Go
namespace Go.Proofs.Ytjdbmmilcihpoaa
set_option linter.unusedSimpArgs false
set_option linter.unusedVariables false
set_option maxHeartbeats 0
set_option maxRecDepth 100000
theorem c38k (L : Int) (j : Int) (l : Int) (n : Nat) (f : Nat → Int) (hn : n ≤ 9223372036854775807) (m : Nat) (g : Nat → Int) (hm : m ≤ 9223372036854775807) (hk : LOk L j l n f m g) (h : AHeap) : Ret Try.prog 38 ([AV.int IntKind.i64 L, AV.int IntKind.i64 j, AV.int IntKind.i64 l, ivs n f, ivs m g]) h (bvs (L + 1).toNat (can L j l n f m g)) h := c38 L j l n f hn m g hm hk h
noncomputable def r16.v (L : Int) (j : Int) (l : Int) (n : Nat) (f : Nat → Int) (m : Nat) (g : Nat → Int) : List Int := (bif can L j l n f m g 0 then (match L16a.run L j l n f m g (can L j l n f m g) 0 0 [] with | .e0 h2d0 h2d1 => h2d1 ) else ([] : List Int))
theorem r16 (L : Int) (j : Int) (l : Int) (n : Nat) (f : Nat → Int) (hn : n ≤ 9223372036854775807) (m : Nat) (g : Nat → Int) (hm : m ≤ 9223372036854775807) (hk : LOk L j l n f m g) (h : AHeap) : Ret Try.prog 16 ([AV.int IntKind.i64 L, AV.int IntKind.i64 j, AV.int IntKind.i64 l, ivs n f, ivs m g]) h (avInts IntKind.i64 (r16.v L j l n f m g)) h := by
  try have := bd_len (by first | assumption | omega)
  have o0 : n ≤ (9223372036854775807 : Nat) := by first | assumption | omega | (simp_all; done)
  have o1 : m ≤ (9223372036854775807 : Nat) := by first | assumption | omega | (simp_all; done)
  have o2 : LOk L j l n f m g := by first | assumption | (simp_all; done)
  have o3 : (0 : Int) < (↑(L + (1 : Int)).toNat : Int) := by first | assumption | omega | (simp_all; done)
  cases h1 : can L j l n f m g 0 with
  | true =>
    try have := bd_len (by first | assumption | omega)
    have o4 : COk L j l n f m g (can L j l n f m g) := by first | assumption | (apply cok <;> first | assumption | omega) | (simp_all; done)
    have o5 : (0 : Int) < L := by first | assumption | omega | (simp_all; done)
    have o6 : can L j l n f m g (0 : Nat) = true := by first | assumption | omega | (simp_all; done)
    cases h2 : L16a.run L j l n f m g (can L j l n f m g) 0 0 [] with
    | e0 h2d0 h2d1 =>
      try have := bd_len (by first | assumption | omega)
      have o7 : (0 : Nat) + h2d1.length ≤ (Col.ints IntKind.i64 h2d1).len := by first | assumption | omega | (simp only [List.length_append, List.length_cons, List.length_nil, List.length_map]; omega) | rfl | (exact Nat.le_refl _) | (simp [Col.len]; done) | (simp only [Col.len, zero_bool, zero_int, List.length_replicate, List.length_set] at *; omega) | (simp_all; done)
      exact Ret.of_run1 mix [(avInts IntKind.i64 (r16.v L j l n f m g))] Try.func16 rfl [.ret (AV.sl 1 (L + 1).toNat fun (i : Nat) => AV.bool (can L j l n f m g i)) ([]), .b false, .virt [] [(none, 12, 1, Col.ints IntKind.i64 [])], .loop (others 80 [0, 1, 2, 3, 4, 11, 12, 13]) (Exit.ret) (L16a.X L j l n f m g (can L j l n f m g) (L16a.O.e0 h2d0 h2d1)) (L16a.XH L j l n f m g (can L j l n f m g) (L16a.O.e0 h2d0 h2d1))] (by simp) (by simp) (kmp (by kernel_rfl) (And.intro (c38k (L) (j) (l) (n) (f) o0 (m) (g) o1 o2 ([])) (And.intro (And.intro (show (0 : Int) ≤ (0 : Int) by first | decide | exact Int.NonNeg.mk _) o3) (And.intro (show (bnot (can L j l n f m g 0)) = false by rw [h1]; try rfl) (And.intro (And.intro (rfl : AV.snil = AV.snil) (And.intro (rfl : (0 : Nat) = 0) trivial)) (And.intro (L16a.e0 (L) (j) (l) (n) (f) o0 (m) (g) o1 o2 (can L j l n f m g) o4 (0) (0) ([]) (And.intro (And.intro (show (0 : Int) ≤ (0 : Int) by first | decide | exact Int.NonNeg.mk _) o5) (And.intro o6 (show (0 : Int) ≤ (0 : Int) by first | decide | exact Int.NonNeg.mk _))) h2d0 h2d1 h2) (And.intro (And.intro (rfl : h2d0 = h2d0) (And.intro (show (1 : Nat) = (1 : Nat) by first | decide | exact Int.NonNeg.mk _) (And.intro o7 (show ((avInts IntKind.i64 h2d1)) = ((avInts IntKind.i64 (r16.v L j l n f m g))) by first | (simp only [r16.v, h1, h2, cond_true, cond_false]; done) | (try unfold r16.v; try simp only [h1, cond_true, cond_false]; try simp only [h2, cond_true, cond_false]; try rfl; done) | rfl)))) trivial))))))) h
  | false =>
    exact Ret.val (show (avInts IntKind.i64 ([] : List Int)) = (avInts IntKind.i64 (r16.v L j l n f m g)) by first | (simp only [r16.v, h1, cond_true, cond_false]; done) | (try unfold r16.v; try simp only [h1, cond_true, cond_false]; try rfl; done) | rfl) (Ret.of_run1 mix [(avInts IntKind.i64 ([] : List Int))] Try.func16 rfl [.ret (AV.sl 1 (L + 1).toNat fun (i : Nat) => AV.bool (can L j l n f m g i)) ([]), .b true] (by simp) (by simp) (kmp (by kernel_rfl) (And.intro (c38k (L) (j) (l) (n) (f) o0 (m) (g) o1 o2 ([])) (And.intro (And.intro (show (0 : Int) ≤ (0 : Int) by first | decide | exact Int.NonNeg.mk _) o3) (And.intro (show (bnot (can L j l n f m g 0)) = true by rw [h1]; try rfl) (And.intro (rfl : ((avInts IntKind.i64 ([] : List Int))) = ((avInts IntKind.i64 ([] : List Int)))) trivial))))) h)

end Go.Proofs.Ytjdbmmilcihpoaa
