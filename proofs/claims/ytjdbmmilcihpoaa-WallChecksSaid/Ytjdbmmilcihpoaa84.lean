/- WallChecks: whatever the input, the law hands back true. Conditions: none. -/
import Derived.Test.Ytjdbmmilcihpoaa83

open Go
namespace Go.Proofs.Ytjdbmmilcihpoaa
set_option linter.unusedSimpArgs false
set_option linter.unusedVariables false
set_option maxHeartbeats 0
set_option maxRecDepth 100000
inductive L12ab.O where
  | e0 (a0 : List Bool)
noncomputable def L12ab.T (L : Int) (j : Int) (l : Int) (n : Nat) (f : Nat → Int) (m : Nat) (g : Nat → Int) (av14 : Nat) (al14 : List Int) (a35 : Int) (ar0 : List Bool) (b48 : Int) (br0 : List Bool) : List AV := mkT 84 [(0, AV.int IntKind.i64 L), (1, AV.int IntKind.i64 j), (2, AV.int IntKind.i64 l), (3, AV.sl 1 n fun (i : Nat) => AV.int IntKind.i64 (f i)), (4, AV.sl 1 m fun (i : Nat) => AV.int IntKind.i64 (g i)), (13, AV.ms 0 L.toNat 1 0 L.toNat), (14, AV.ms 1 (av14 + 1) 1 0 ((Col.ints IntKind.i64 al14).join AppMode.one 1 fun (a : Nat) => (Col.ofList [AV.int IntKind.i64 a35]).get a).len), (15, AV.int IntKind.i64 a35), (33, AV.ms 0 L.toNat 1 0 L.toNat), (34, AV.int IntKind.i64 (↑L.toNat : Int)), (35, AV.int IntKind.i64 a35), (46, AV.sl 1 n fun (i : Nat) => AV.int IntKind.i64 (f i)), (47, AV.int IntKind.i64 (↑n : Int)), (48, AV.int IntKind.i64 b48)]
noncomputable def L12ab.H (L : Int) (j : Int) (l : Int) (n : Nat) (f : Nat → Int) (m : Nat) (g : Nat → Int) (av14 : Nat) (al14 : List Int) (a35 : Int) (ar0 : List Bool) (b48 : Int) (br0 : List Bool) : AHeap := [AObj.row 1 L.toNat (Col.bools br0), AObj.row 1 (av14 + 1) (Col.ints IntKind.i64 (al14 ++ [a35]))]
def L12ab.inv (L : Int) (j : Int) (l : Int) (n : Nat) (f : Nat → Int) (m : Nat) (g : Nat → Int) (av14 : Nat) (al14 : List Int) (a35 : Int) (ar0 : List Bool) (b48 : Int) (br0 : List Bool) : Prop := 0 ≤ b48 ∧ (b48 ≤ (↑n : Int) ∨ b48 ≤ 0) ∧ br0.length = ar0.length
noncomputable def L12ab.mu (L : Int) (j : Int) (l : Int) (n : Nat) (f : Nat → Int) (m : Nat) (g : Nat → Int) (av14 : Nat) (al14 : List Int) (a35 : Int) (ar0 : List Bool) (b48 : Int) (br0 : List Bool) : Nat := ((↑n : Int) - b48).toNat
noncomputable def L12ab.E : L12ab.O → Exit
  | .e0 a0 => Exit.exit 2
noncomputable def L12ab.X (L : Int) (j : Int) (l : Int) (n : Nat) (f : Nat → Int) (m : Nat) (g : Nat → Int) (av14 : Nat) (al14 : List Int) (a35 : Int) (ar0 : List Bool) : L12ab.O → List AV
  | .e0 a0 => mkT 84 [(0, (AV.int IntKind.i64 L)), (1, (AV.int IntKind.i64 j)), (2, (AV.int IntKind.i64 l)), (3, (AV.sl 1 n fun (i : Nat) => AV.int IntKind.i64 (f i))), (4, (AV.sl 1 m fun (i : Nat) => AV.int IntKind.i64 (g i))), (13, (AV.ms 0 L.toNat 1 0 L.toNat)), (14, (AV.ms 1 (av14 + 1) 1 0 (al14 ++ [a35]).length)), (33, (AV.ms 0 L.toNat 1 0 L.toNat)), (34, (AV.int IntKind.i64 (↑L.toNat : Int))), (35, (AV.int IntKind.i64 a35))]
noncomputable def L12ab.XH (L : Int) (j : Int) (l : Int) (n : Nat) (f : Nat → Int) (m : Nat) (g : Nat → Int) (av14 : Nat) (al14 : List Int) (a35 : Int) (ar0 : List Bool) : L12ab.O → AHeap
  | .e0 a0 => ((AObj.row 1 (L.toNat) (Col.bools a0)) :: ([AObj.row 1 (av14 + 1) (Col.ints IntKind.i64 (al14 ++ [a35]))]))
noncomputable def L12ab.N (L : Int) (j : Int) (l : Int) (n : Nat) (f : Nat → Int) (m : Nat) (g : Nat → Int) (a35 : Int) : Nat → Int → (List Bool) → L12ab.O
  | 0, _, br0 => .e0 br0
  | k_ + 1, b48, br0 => (bif decide (b48 < (↑n : Int)) then (bif decide (IntKind.i64.wrap (IntKind.i64.wrap (a35 + f b48.toNat) + j) < L) then (bif br0.getD (0 + (IntKind.i64.wrap (IntKind.i64.wrap (a35 + f b48.toNat) + j)).toNat) false then (L12ab.N L j l n f m g a35 k_ (IntKind.i64.wrap (b48 + 1)) (br0)) else (bif r34.v (IntKind.i64.wrap (a35 + f b48.toNat)) j l m g then (L12ab.N L j l n f m g a35 k_ (IntKind.i64.wrap (b48 + 1)) (br0.set (0 + (IntKind.i64.wrap (IntKind.i64.wrap (a35 + f b48.toNat) + j)).toNat) true)) else (L12ab.N L j l n f m g a35 k_ (IntKind.i64.wrap (b48 + 1)) (br0)))) else (L12ab.N L j l n f m g a35 k_ (IntKind.i64.wrap (b48 + 1)) (br0))) else (.e0 (br0)))
noncomputable def L12ab.run (L : Int) (j : Int) (l : Int) (n : Nat) (f : Nat → Int) (m : Nat) (g : Nat → Int) (a35 : Int) (b48 : Int) (br0 : List Bool) : L12ab.O := L12ab.N L j l n f m g a35 ((((↑n : Int) - b48).toNat) + 1) b48 br0
theorem L12ab.nx (L : Int) (j : Int) (l : Int) (n : Nat) (f : Nat → Int) (m : Nat) (g : Nat → Int) (av14 : Nat) (al14 : List Int) (a35 : Int) (ar0 : List Bool) {k_ : Nat} {z_ : Int × (List Bool)} {h_ : AHeap} (s_ : Int × (List Bool)) (h1 : L12ab.inv L j l n f m g av14 al14 a35 ar0 s_.1 s_.2) (h2 : L12ab.mu L j l n f m g av14 al14 a35 ar0 s_.1 s_.2 < L12ab.mu L j l n f m g av14 al14 a35 ar0 z_.1 z_.2) (h3 : L12ab.N L j l n f m g a35 k_ s_.1 s_.2 = L12ab.N L j l n f m g a35 (k_ + 1) z_.1 z_.2) (h4 : PopOk (L12ab.H L j l n f m g av14 al14 a35 ar0 z_.1 z_.2) h_ (L12ab.T L j l n f m g av14 al14 a35 ar0 s_.1 s_.2) (L12ab.H L j l n f m g av14 al14 a35 ar0 s_.1 s_.2)) : LNextP (fun (z_ : Int × (List Bool)) => L12ab.T L j l n f m g av14 al14 a35 ar0 z_.1 z_.2) (fun (z_ : Int × (List Bool)) => L12ab.H L j l n f m g av14 al14 a35 ar0 z_.1 z_.2) (fun (z_ : Int × (List Bool)) => L12ab.inv L j l n f m g av14 al14 a35 ar0 z_.1 z_.2) (fun (z_ : Int × (List Bool)) => L12ab.mu L j l n f m g av14 al14 a35 ar0 z_.1 z_.2) (fun (k_ : Nat) (z_ : Int × (List Bool)) => L12ab.N L j l n f m g a35 k_ z_.1 z_.2) k_ z_ (L12ab.T L j l n f m g av14 al14 a35 ar0 s_.1 s_.2) h_ := LNextP.mk (Tm := (fun (z_ : Int × (List Bool)) => L12ab.T L j l n f m g av14 al14 a35 ar0 z_.1 z_.2)) (Hp := (fun (z_ : Int × (List Bool)) => L12ab.H L j l n f m g av14 al14 a35 ar0 z_.1 z_.2)) (inv := (fun (z_ : Int × (List Bool)) => L12ab.inv L j l n f m g av14 al14 a35 ar0 z_.1 z_.2)) (mu := (fun (z_ : Int × (List Bool)) => L12ab.mu L j l n f m g av14 al14 a35 ar0 z_.1 z_.2)) (l := (fun (k_ : Nat) (z_ : Int × (List Bool)) => L12ab.N L j l n f m g a35 k_ z_.1 z_.2)) s_ h1 h2 h3 h4
theorem L12ab.en (L : Int) (j : Int) (l : Int) (n : Nat) (f : Nat → Int) (m : Nat) (g : Nat → Int) (av14 : Nat) (al14 : List Int) (a35 : Int) (ar0 : List Bool) {k_ : Nat} {z_ : Int × (List Bool)} {h_ : AHeap} (o_ : L12ab.O) (h3 : L12ab.N L j l n f m g a35 (k_ + 1) z_.1 z_.2 = o_) (h4 : PopOk (L12ab.H L j l n f m g av14 al14 a35 ar0 z_.1 z_.2) h_ (L12ab.X L j l n f m g av14 al14 a35 ar0 o_) (L12ab.XH L j l n f m g av14 al14 a35 ar0 o_)) : LEndP (fun (z_ : Int × (List Bool)) => L12ab.H L j l n f m g av14 al14 a35 ar0 z_.1 z_.2) (fun (k_ : Nat) (z_ : Int × (List Bool)) => L12ab.N L j l n f m g a35 k_ z_.1 z_.2) L12ab.E (L12ab.X L j l n f m g av14 al14 a35 ar0) (L12ab.XH L j l n f m g av14 al14 a35 ar0) k_ z_ (L12ab.E o_) (L12ab.X L j l n f m g av14 al14 a35 ar0 o_) h_ := LEndP.mk (Hp := (fun (z_ : Int × (List Bool)) => L12ab.H L j l n f m g av14 al14 a35 ar0 z_.1 z_.2)) (l := (fun (k_ : Nat) (z_ : Int × (List Bool)) => L12ab.N L j l n f m g a35 k_ z_.1 z_.2)) (oE := L12ab.E) (oT := L12ab.X L j l n f m g av14 al14 a35 ar0) (oH := L12ab.XH L j l n f m g av14 al14 a35 ar0) o_ h3 h4
noncomputable abbrev L12ab.h0 (L : Int) (j : Int) (l : Int) (n : Nat) (f : Nat → Int) (m : Nat) (g : Nat → Int) (av14 : Nat) (al14 : List Int) (a35 : Int) (ar0 : List Bool) (b48 : Int) (br0 : List Bool) : AHeap := ([AObj.row 1 L.toNat (Col.bools br0), AObj.row 1 (av14 + 1) (Col.ints IntKind.i64 (al14 ++ [a35]))])
theorem L12ab.spec (L : Int) (j : Int) (l : Int) (n : Nat) (f : Nat → Int) (hn : n ≤ 9223372036854775807) (m : Nat) (g : Nat → Int) (hm : m ≤ 9223372036854775807) (k0_1 : (r32.v L j l n f m g == 0) = true) (p0_1 : r32.v L j l n f m g = 0) (av14 : Nat) (al14 : List Int) (a35 : Int) (ar0 : List Bool) (i12a_0 : 0 ≤ a35) (i12a_1 : a35 ≤ (↑L.toNat : Int) ∨ a35 ≤ 0) (i12a_2 : (↑al14.length : Int) ≤ 1000000 * (a35 - 0)) (i12a_3 : ar0.length = ((List.replicate L.toNat false).set 0 true).length) (k1_1 : decide (a35 < (↑L.toNat : Int)) = true) (p1_1 : a35 < (↑L.toNat : Int)) (k1_2 : ar0.getD (0 + a35.toNat) false = true) (k_ : Nat) (z_ : Int × (List Bool)) (hi_ : L12ab.inv L j l n f m g av14 al14 a35 ar0 z_.1 z_.2) (hm_ : L12ab.mu L j l n f m g av14 al14 a35 ar0 z_.1 z_.2 < k_) : LoopTo Try.prog (loopN Try.f12 1) (L12ab.T L j l n f m g av14 al14 a35 ar0 z_.1 z_.2) (L12ab.H L j l n f m g av14 al14 a35 ar0 z_.1 z_.2) (L12ab.E (L12ab.N L j l n f m g a35 k_ z_.1 z_.2)) (L12ab.X L j l n f m g av14 al14 a35 ar0 (L12ab.N L j l n f m g a35 k_ z_.1 z_.2)) (L12ab.XH L j l n f m g av14 al14 a35 ar0 (L12ab.N L j l n f m g a35 k_ z_.1 z_.2)) := by
  refine LoopTo.fuelP mix (fun (z_ : Int × (List Bool)) => L12ab.T L j l n f m g av14 al14 a35 ar0 z_.1 z_.2) (fun (z_ : Int × (List Bool)) => L12ab.H L j l n f m g av14 al14 a35 ar0 z_.1 z_.2) (fun (z_ : Int × (List Bool)) => L12ab.inv L j l n f m g av14 al14 a35 ar0 z_.1 z_.2) (fun (z_ : Int × (List Bool)) => L12ab.mu L j l n f m g av14 al14 a35 ar0 z_.1 z_.2) (fun (k_ : Nat) (z_ : Int × (List Bool)) => L12ab.N L j l n f m g a35 k_ z_.1 z_.2) L12ab.E (L12ab.X L j l n f m g av14 al14 a35 ar0) (L12ab.XH L j l n f m g av14 al14 a35 ar0) (others 84 [0, 1, 2, 3, 4, 13, 14, 15, 33, 34, 35, 46, 47, 48]) (others 84 [10, 11]) (others 84 [0, 1, 2, 3, 4, 13, 14, 33, 34, 35]) ?_ k_ z_ hi_ hm_
  clear hm_ hi_ z_ k_
  intro k_ z_ hinv hmu
  obtain ⟨b48, br0⟩ := z_
  have hinv : 0 ≤ b48 ∧ (b48 ≤ (↑n : Int) ∨ b48 ≤ 0) ∧ br0.length = ar0.length := hinv
  have hmu : (((↑n : Int) - b48).toNat) < k_ + 1 := hmu
  cases h1 : decide (b48 < (↑n : Int)) with
  | true =>
    have h1p := of_decide_eq_true h1
    try have := bd_ok (by assumption) (by assumption) (by assumption)
    try have := bd_len (by assumption)
    try have := bd_sz (by assumption) (by assumption) (by omega)
    have o0 : (0 : Int) ≤ b48 := by omega
    have o1 : b48 < (↑n : Int) := by assumption
    cases h2 : decide (IntKind.i64.wrap (IntKind.i64.wrap (a35 + f b48.toNat) + j) < L) with
    | true =>
      have h2p := of_decide_eq_true h2
      try have := bd_ok (by assumption) (by assumption) (by assumption)
      try have := bd_len (by assumption)
      try have := bd_sz (by assumption) (by assumption) (by assumption)
      try have := IntWalk.i64_in (a35 + f b48.toNat) (by omega)
      try have := IntWalk.i64_in (IntKind.i64.wrap (a35 + f b48.toNat) + j) (by omega)
      have o2 : (0 : Int) ≤ IntKind.i64.wrap (IntKind.i64.wrap (a35 + f b48.toNat) + j) := by first | assumption | omega | (apply wr_0 <;> first | assumption | omega) | (simp_all; done)
      have o3 : IntKind.i64.wrap (IntKind.i64.wrap (a35 + f b48.toNat) + j) < (↑L.toNat : Int) := by omega
      have o4 : (0 : Nat) + (IntKind.i64.wrap (IntKind.i64.wrap (a35 + f b48.toNat) + j)).toNat < (Col.bools br0).len := by simp only [Col.len, zero_bool, zero_int, List.length_replicate, List.length_set] at *; omega
      cases h3 : br0.getD (0 + (IntKind.i64.wrap (IntKind.i64.wrap (a35 + f b48.toNat) + j)).toNat) false with
      | true =>
        try have := bd_ok (by assumption) (by assumption) (by assumption)
        try have := bd_len (by assumption)
        try have := bd_sz (by assumption) (by assumption) (by assumption)
        try have := IntWalk.i64_in (b48 + 1) (by omega)
        have o5 : (0 : Int) ≤ IntKind.i64.wrap (b48 + (1 : Int)) := by omega
        have o6 : IntKind.i64.wrap (b48 + (1 : Int)) ≤ (↑n : Int) ∨ IntKind.i64.wrap (b48 + (1 : Int)) ≤ (0 : Int) := by omega
        have o7 : br0.length = ar0.length := by omega
        have o8 : ((↑n : Int) - IntKind.i64.wrap (b48 + (1 : Int))).toNat < ((↑n : Int) - b48).toNat := by omega
        exact ⟨[.b true, .b true, .b true, .b true, .b true, .b true, .b true, .b true, .b true, .b false, .b false, .b false, .b false, .b false, .b false, .b false], kmp (by kernel_rfl) (And.intro h1 (And.intro (And.intro o0 o1) (And.intro h2 (And.intro h2 (And.intro h2 (And.intro h2 (And.intro h2 (And.intro (And.intro o2 o3) (And.intro h2 (And.intro (And.intro (rfl : L.toNat = L.toNat) (And.intro (show (1 : Nat) = (1 : Nat) by decide) o4)) (And.intro h2 (And.intro h2 (And.intro (show (bnot (br0.getD (0 + (IntKind.i64.wrap (IntKind.i64.wrap (a35 + f b48.toNat) + j)).toNat) false)) = false by rw [h3]; try rfl) (And.intro (show (bnot (br0.getD (0 + (IntKind.i64.wrap (IntKind.i64.wrap (a35 + f b48.toNat) + j)).toNat) false)) = false by rw [h3]; try rfl) (And.intro (show (bnot (br0.getD (0 + (IntKind.i64.wrap (IntKind.i64.wrap (a35 + f b48.toNat) + j)).toNat) false)) = false by rw [h3]; try rfl) (And.intro (show (bnot (br0.getD (0 + (IntKind.i64.wrap (IntKind.i64.wrap (a35 + f b48.toNat) + j)).toNat) false)) = false by rw [h3]; try rfl) (And.intro (show (bnot (br0.getD (0 + (IntKind.i64.wrap (IntKind.i64.wrap (a35 + f b48.toNat) + j)).toNat) false)) = false by rw [h3]; try rfl) (And.intro (show (bnot (br0.getD (0 + (IntKind.i64.wrap (IntKind.i64.wrap (a35 + f b48.toNat) + j)).toNat) false)) = false by rw [h3]; try rfl) (And.intro (rfl : false = false) (L12ab.nx L j l n f m g av14 al14 a35 ar0 (k_ := k_) (z_ := (b48, br0)) ((IntKind.i64.wrap (b48 + 1), br0)) (And.intro o5 (And.intro o6 o7)) o8 (by simp only [L12ab.N, h1, h2, h3, cond_true, cond_false]) PopOk.same))))))))))))))))))))⟩
      | false =>
        try have := bd_ok (by assumption) (by assumption) (by assumption)
        try have := bd_len (by assumption)
        try have := bd_sz (by assumption) (by assumption) (by assumption)
        have o9 : m ≤ (9223372036854775807 : Nat) := by assumption
        cases h4 : r34.v (IntKind.i64.wrap (a35 + f b48.toNat)) j l m g with
        | true =>
          try have := bd_ok (by assumption) (by assumption) (by assumption)
          try have := bd_len (by assumption)
          try have := bd_sz (by assumption) (by assumption) (by assumption)
          try have := IntWalk.i64_in (b48 + 1) (by omega)
          have o5 : (0 : Int) ≤ IntKind.i64.wrap (b48 + (1 : Int)) := by omega
          have o6 : IntKind.i64.wrap (b48 + (1 : Int)) ≤ (↑n : Int) ∨ IntKind.i64.wrap (b48 + (1 : Int)) ≤ (0 : Int) := by omega
          try have := IntWalk.i64_in (a35 + f b48.toNat) (by omega)
          try have := IntWalk.i64_in (IntKind.i64.wrap (a35 + f b48.toNat) + j) (by omega)
          have o10 : (br0.set ((0 : Nat) + (IntKind.i64.wrap (IntKind.i64.wrap (a35 + f b48.toNat) + j)).toNat) true).length = ar0.length := by simp_all
          have o8 : ((↑n : Int) - IntKind.i64.wrap (b48 + (1 : Int))).toNat < ((↑n : Int) - b48).toNat := by omega
          exact ⟨[.b true, .b true, .b true, .b true, .b true, .b true, .b true, .b true, .b true, .b true, .b true, .b true, .b true, .b true, .ret (AV.bool (r34.v (IntKind.i64.wrap (a35 + f b48.toNat)) j l m g)) (L12ab.h0 L j l n f m g av14 al14 a35 ar0 b48 br0), .b true, .b true], kmp (by kernel_rfl) (And.intro h1 (And.intro (And.intro o0 o1) (And.intro h2 (And.intro h2 (And.intro h2 (And.intro h2 (And.intro h2 (And.intro (And.intro o2 o3) (And.intro h2 (And.intro (And.intro (rfl : L.toNat = L.toNat) (And.intro (show (1 : Nat) = (1 : Nat) by decide) o4)) (And.intro h2 (And.intro h2 (And.intro (show (bnot (br0.getD (0 + (IntKind.i64.wrap (IntKind.i64.wrap (a35 + f b48.toNat) + j)).toNat) false)) = true by rw [h3]; try rfl) (And.intro (show (bnot (br0.getD (0 + (IntKind.i64.wrap (IntKind.i64.wrap (a35 + f b48.toNat) + j)).toNat) false)) = true by rw [h3]; try rfl) (And.intro (show (bnot (br0.getD (0 + (IntKind.i64.wrap (IntKind.i64.wrap (a35 + f b48.toNat) + j)).toNat) false)) = true by rw [h3]; try rfl) (And.intro (show (bnot (br0.getD (0 + (IntKind.i64.wrap (IntKind.i64.wrap (a35 + f b48.toNat) + j)).toNat) false)) = true by rw [h3]; try rfl) (And.intro (show (bnot (br0.getD (0 + (IntKind.i64.wrap (IntKind.i64.wrap (a35 + f b48.toNat) + j)).toNat) false)) = true by rw [h3]; try rfl) (And.intro (r34 (IntKind.i64.wrap (a35 + f b48.toNat)) (j) (l) (m) (g) o9 (L12ab.h0 L j l n f m g av14 al14 a35 ar0 b48 br0)) (And.intro (show (bnot (br0.getD (0 + (IntKind.i64.wrap (IntKind.i64.wrap (a35 + f b48.toNat) + j)).toNat) false)) = true by rw [h3]; try rfl) (And.intro h4 (And.intro (And.intro o2 o3) (And.intro (And.intro (rfl : L.toNat = L.toNat) o4) (L12ab.nx L j l n f m g av14 al14 a35 ar0 (k_ := k_) (z_ := (b48, br0)) ((IntKind.i64.wrap (b48 + 1), br0.set (0 + (IntKind.i64.wrap (IntKind.i64.wrap (a35 + f b48.toNat) + j)).toNat) true)) (And.intro o5 (And.intro o6 o10)) o8 (by simp only [L12ab.N, h1, h2, h3, h4, cond_true, cond_false]) PopOk.same)))))))))))))))))))))))⟩
        | false =>
          try have := bd_ok (by assumption) (by assumption) (by assumption)
          try have := bd_len (by assumption)
          try have := bd_sz (by assumption) (by assumption) (by assumption)
          try have := IntWalk.i64_in (b48 + 1) (by omega)
          have o5 : (0 : Int) ≤ IntKind.i64.wrap (b48 + (1 : Int)) := by omega
          have o6 : IntKind.i64.wrap (b48 + (1 : Int)) ≤ (↑n : Int) ∨ IntKind.i64.wrap (b48 + (1 : Int)) ≤ (0 : Int) := by omega
          have o7 : br0.length = ar0.length := by omega
          have o8 : ((↑n : Int) - IntKind.i64.wrap (b48 + (1 : Int))).toNat < ((↑n : Int) - b48).toNat := by omega
          exact ⟨[.b true, .b true, .b true, .b true, .b true, .b true, .b true, .b true, .b true, .b true, .b true, .b true, .b true, .b true, .ret (AV.bool (r34.v (IntKind.i64.wrap (a35 + f b48.toNat)) j l m g)) (L12ab.h0 L j l n f m g av14 al14 a35 ar0 b48 br0), .b true, .b false], kmp (by kernel_rfl) (And.intro h1 (And.intro (And.intro o0 o1) (And.intro h2 (And.intro h2 (And.intro h2 (And.intro h2 (And.intro h2 (And.intro (And.intro o2 o3) (And.intro h2 (And.intro (And.intro (rfl : L.toNat = L.toNat) (And.intro (show (1 : Nat) = (1 : Nat) by decide) o4)) (And.intro h2 (And.intro h2 (And.intro (show (bnot (br0.getD (0 + (IntKind.i64.wrap (IntKind.i64.wrap (a35 + f b48.toNat) + j)).toNat) false)) = true by rw [h3]; try rfl) (And.intro (show (bnot (br0.getD (0 + (IntKind.i64.wrap (IntKind.i64.wrap (a35 + f b48.toNat) + j)).toNat) false)) = true by rw [h3]; try rfl) (And.intro (show (bnot (br0.getD (0 + (IntKind.i64.wrap (IntKind.i64.wrap (a35 + f b48.toNat) + j)).toNat) false)) = true by rw [h3]; try rfl) (And.intro (show (bnot (br0.getD (0 + (IntKind.i64.wrap (IntKind.i64.wrap (a35 + f b48.toNat) + j)).toNat) false)) = true by rw [h3]; try rfl) (And.intro (show (bnot (br0.getD (0 + (IntKind.i64.wrap (IntKind.i64.wrap (a35 + f b48.toNat) + j)).toNat) false)) = true by rw [h3]; try rfl) (And.intro (r34 (IntKind.i64.wrap (a35 + f b48.toNat)) (j) (l) (m) (g) o9 (L12ab.h0 L j l n f m g av14 al14 a35 ar0 b48 br0)) (And.intro (show (bnot (br0.getD (0 + (IntKind.i64.wrap (IntKind.i64.wrap (a35 + f b48.toNat) + j)).toNat) false)) = true by rw [h3]; try rfl) (And.intro h4 (L12ab.nx L j l n f m g av14 al14 a35 ar0 (k_ := k_) (z_ := (b48, br0)) ((IntKind.i64.wrap (b48 + 1), br0)) (And.intro o5 (And.intro o6 o7)) o8 (by simp only [L12ab.N, h1, h2, h3, h4, cond_true, cond_false]) PopOk.same)))))))))))))))))))))⟩
    | false =>
      have h2p := of_decide_eq_false h2
      try have := bd_ok (by assumption) (by assumption) (by assumption)
      try have := bd_len (by assumption)
      try have := bd_sz (by assumption) (by assumption) (by assumption)
      try have := IntWalk.i64_in (b48 + 1) (by omega)
      have o5 : (0 : Int) ≤ IntKind.i64.wrap (b48 + (1 : Int)) := by omega
      have o6 : IntKind.i64.wrap (b48 + (1 : Int)) ≤ (↑n : Int) ∨ IntKind.i64.wrap (b48 + (1 : Int)) ≤ (0 : Int) := by omega
      have o7 : br0.length = ar0.length := by omega
      have o8 : ((↑n : Int) - IntKind.i64.wrap (b48 + (1 : Int))).toNat < ((↑n : Int) - b48).toNat := by omega
      exact ⟨[.b true, .b false, .b false, .b false, .b false, .b false, .b false, .b false, .b false, .b false, .b false, .b false, .b false, .b false, .b false, .b false], kmp (by kernel_rfl) (And.intro h1 (And.intro (And.intro o0 o1) (And.intro h2 (And.intro h2 (And.intro h2 (And.intro h2 (And.intro h2 (And.intro h2 (And.intro h2 (And.intro h2 (And.intro (rfl : false = false) (And.intro (rfl : false = false) (And.intro (rfl : false = false) (And.intro (rfl : false = false) (And.intro (rfl : false = false) (And.intro (rfl : false = false) (And.intro (rfl : false = false) (L12ab.nx L j l n f m g av14 al14 a35 ar0 (k_ := k_) (z_ := (b48, br0)) ((IntKind.i64.wrap (b48 + 1), br0)) (And.intro o5 (And.intro o6 o7)) o8 (by simp only [L12ab.N, h1, h2, cond_true, cond_false]) PopOk.same))))))))))))))))))⟩
  | false =>
    have h1p := of_decide_eq_false h1
    exact ⟨[.b false], kmp (by kernel_rfl) (And.intro h1 (L12ab.en L j l n f m g av14 al14 a35 ar0 (k_ := k_) (z_ := (b48, br0)) (.e0 (br0) : L12ab.O) (by simp only [L12ab.N, h1, cond_true, cond_false]) PopOk.same))⟩
theorem L12ab.e0 (L : Int) (j : Int) (l : Int) (n : Nat) (f : Nat → Int) (hn : n ≤ 9223372036854775807) (m : Nat) (g : Nat → Int) (hm : m ≤ 9223372036854775807) (k0_1 : (r32.v L j l n f m g == 0) = true) (p0_1 : r32.v L j l n f m g = 0) (av14 : Nat) (al14 : List Int) (a35 : Int) (ar0 : List Bool) (i12a_0 : 0 ≤ a35) (i12a_1 : a35 ≤ (↑L.toNat : Int) ∨ a35 ≤ 0) (i12a_2 : (↑al14.length : Int) ≤ 1000000 * (a35 - 0)) (i12a_3 : ar0.length = ((List.replicate L.toNat false).set 0 true).length) (k1_1 : decide (a35 < (↑L.toNat : Int)) = true) (p1_1 : a35 < (↑L.toNat : Int)) (k1_2 : ar0.getD (0 + a35.toNat) false = true) (b48 : Int) (br0 : List Bool) (hinv : L12ab.inv L j l n f m g av14 al14 a35 ar0 b48 br0) (a0 : List Bool) (hN : L12ab.run L j l n f m g a35 b48 br0 = (.e0 a0 : L12ab.O)) : LoopTo Try.prog (loopN Try.f12 1) (L12ab.T L j l n f m g av14 al14 a35 ar0 b48 br0) (L12ab.H L j l n f m g av14 al14 a35 ar0 b48 br0) (Exit.exit 2) (L12ab.X L j l n f m g av14 al14 a35 ar0 (.e0 a0 : L12ab.O)) (L12ab.XH L j l n f m g av14 al14 a35 ar0 (.e0 a0 : L12ab.O)) := by
  have h_ := L12ab.spec L j l n f hn m g hm k0_1 p0_1 av14 al14 a35 ar0 i12a_0 i12a_1 i12a_2 i12a_3 k1_1 p1_1 k1_2 ((((↑n : Int) - b48).toNat) + 1) (b48, br0) hinv (Nat.lt_succ_self _)
  unfold L12ab.run at hN
  simp only [hN] at h_
  exact h_
theorem L12ab.len0_0 (L : Int) (j : Int) (l : Int) (n : Nat) (f : Nat → Int) (m : Nat) (g : Nat → Int) (a35 : Int) : ∀ (m_ : Nat) (b48 : Int) (br0 : List Bool) (a0_ : List Bool), L12ab.N L j l n f m g a35 m_ b48 br0 = (.e0 a0_ : L12ab.O) → (a0_).length ≤ (br0).length + m_ := by
  intro m_
  induction m_ with
  | zero =>
    intro b48 br0 a0_ h_
    simp only [L12ab.N] at h_
    first | (cases h_; done) | (cases h_; first | exact Nat.zero_le _ | omega)
  | succ m_ ih_ =>
    intro b48 br0 a0_ h_
    cases h1 : decide (b48 < (↑n : Int)) with
    | true =>
      have h1p := of_decide_eq_true h1
      cases h2 : decide (IntKind.i64.wrap (IntKind.i64.wrap (a35 + f b48.toNat) + j) < L) with
      | true =>
        have h2p := of_decide_eq_true h2
        cases h3 : br0.getD (0 + (IntKind.i64.wrap (IntKind.i64.wrap (a35 + f b48.toNat) + j)).toNat) false with
        | true =>
          (simp only [L12ab.N, h1, h2, h3, cond_true, cond_false] at h_; first | (have := ih_ _ _ _ h_; (try simp only [List.length_append, List.length_cons, List.length_nil, List.length_set] at this); omega) | (cases h_; done) | (cases h_; omega))
        | false =>
          cases h4 : r34.v (IntKind.i64.wrap (a35 + f b48.toNat)) j l m g with
          | true =>
            (simp only [L12ab.N, h1, h2, h3, h4, cond_true, cond_false] at h_; first | (have := ih_ _ _ _ h_; (try simp only [List.length_append, List.length_cons, List.length_nil, List.length_set] at this); omega) | (cases h_; done) | (cases h_; omega))
          | false =>
            (simp only [L12ab.N, h1, h2, h3, h4, cond_true, cond_false] at h_; first | (have := ih_ _ _ _ h_; (try simp only [List.length_append, List.length_cons, List.length_nil, List.length_set] at this); omega) | (cases h_; done) | (cases h_; omega))
      | false =>
        have h2p := of_decide_eq_false h2
        (simp only [L12ab.N, h1, h2, cond_true, cond_false] at h_; first | (have := ih_ _ _ _ h_; (try simp only [List.length_append, List.length_cons, List.length_nil, List.length_set] at this); omega) | (cases h_; done) | (cases h_; omega))
    | false =>
      have h1p := of_decide_eq_false h1
      (simp only [L12ab.N, h1, cond_true, cond_false] at h_; first | (have := ih_ _ _ _ h_; (try simp only [List.length_append, List.length_cons, List.length_nil, List.length_set] at this); omega) | (cases h_; done) | (cases h_; omega))
theorem L12ab.lenR0_0 (L : Int) (j : Int) (l : Int) (n : Nat) (f : Nat → Int) (m : Nat) (g : Nat → Int) (a35 : Int) {b48 : Int} {br0 : List Bool} {a0_ : List Bool} (h_ : L12ab.run L j l n f m g a35 b48 br0 = (.e0 a0_ : L12ab.O)) : (a0_).length ≤ (br0).length + ((((↑n : Int) - b48).toNat) + 1) := L12ab.len0_0 L j l n f m g a35 _ b48 br0 a0_ h_
theorem L12ab.leq0_0 (L : Int) (j : Int) (l : Int) (n : Nat) (f : Nat → Int) (m : Nat) (g : Nat → Int) (a35 : Int) : ∀ (m_ : Nat) (b48 : Int) (br0 : List Bool) (a0_ : List Bool), L12ab.N L j l n f m g a35 m_ b48 br0 = (.e0 a0_ : L12ab.O) → (a0_).length = (br0).length := by
  intro m_
  induction m_ with
  | zero =>
    intro b48 br0 a0_ h_
    simp only [L12ab.N] at h_
    cases h_
    try rfl
  | succ m_ ih_ =>
    intro b48 br0 a0_ h_
    cases h1 : decide (b48 < (↑n : Int)) with
    | true =>
      have h1p := of_decide_eq_true h1
      cases h2 : decide (IntKind.i64.wrap (IntKind.i64.wrap (a35 + f b48.toNat) + j) < L) with
      | true =>
        have h2p := of_decide_eq_true h2
        cases h3 : br0.getD (0 + (IntKind.i64.wrap (IntKind.i64.wrap (a35 + f b48.toNat) + j)).toNat) false with
        | true =>
          (simp only [L12ab.N, h1, h2, h3, cond_true, cond_false] at h_; first | (have q_ := ih_ _ _ _ h_; (try simp only [List.length_set] at *); omega) | (cases h_; done) | (cases h_; first | rfl | simp))
        | false =>
          cases h4 : r34.v (IntKind.i64.wrap (a35 + f b48.toNat)) j l m g with
          | true =>
            (simp only [L12ab.N, h1, h2, h3, h4, cond_true, cond_false] at h_; first | (have q_ := ih_ _ _ _ h_; (try simp only [List.length_set] at *); omega) | (cases h_; done) | (cases h_; first | rfl | simp))
          | false =>
            (simp only [L12ab.N, h1, h2, h3, h4, cond_true, cond_false] at h_; first | (have q_ := ih_ _ _ _ h_; (try simp only [List.length_set] at *); omega) | (cases h_; done) | (cases h_; first | rfl | simp))
      | false =>
        have h2p := of_decide_eq_false h2
        (simp only [L12ab.N, h1, h2, cond_true, cond_false] at h_; first | (have q_ := ih_ _ _ _ h_; (try simp only [List.length_set] at *); omega) | (cases h_; done) | (cases h_; first | rfl | simp))
    | false =>
      have h1p := of_decide_eq_false h1
      (simp only [L12ab.N, h1, cond_true, cond_false] at h_; first | (have q_ := ih_ _ _ _ h_; (try simp only [List.length_set] at *); omega) | (cases h_; done) | (cases h_; first | rfl | simp))
theorem L12ab.leqR0_0 (L : Int) (j : Int) (l : Int) (n : Nat) (f : Nat → Int) (m : Nat) (g : Nat → Int) (a35 : Int) {b48 : Int} {br0 : List Bool} {a0_ : List Bool} (h_ : L12ab.run L j l n f m g a35 b48 br0 = (.e0 a0_ : L12ab.O)) : (a0_).length = (br0).length := L12ab.leq0_0 L j l n f m g a35 _ b48 br0 a0_ h_
inductive L12a.O where
  | e0 (a0 : Nat) (a1 : List Int) (a2 : List Bool)
noncomputable def L12a.T (L : Int) (j : Int) (l : Int) (n : Nat) (f : Nat → Int) (m : Nat) (g : Nat → Int) (av14 : Nat) (al14 : List Int) (a35 : Int) (ar0 : List Bool) : List AV := mkT 84 [(0, AV.int IntKind.i64 L), (1, AV.int IntKind.i64 j), (2, AV.int IntKind.i64 l), (3, AV.sl 1 n fun (i : Nat) => AV.int IntKind.i64 (f i)), (4, AV.sl 1 m fun (i : Nat) => AV.int IntKind.i64 (g i)), (13, AV.ms 0 L.toNat 1 0 L.toNat), (14, AV.ms 1 av14 1 0 al14.length), (33, AV.ms 0 L.toNat 1 0 L.toNat), (34, AV.int IntKind.i64 (↑L.toNat : Int)), (35, AV.int IntKind.i64 a35)]
noncomputable def L12a.H (L : Int) (j : Int) (l : Int) (n : Nat) (f : Nat → Int) (m : Nat) (g : Nat → Int) (av14 : Nat) (al14 : List Int) (a35 : Int) (ar0 : List Bool) : AHeap := [AObj.row 1 L.toNat (Col.bools ar0), AObj.row 1 av14 (Col.ints IntKind.i64 al14)]
def L12a.inv (L : Int) (j : Int) (l : Int) (n : Nat) (f : Nat → Int) (m : Nat) (g : Nat → Int) (av14 : Nat) (al14 : List Int) (a35 : Int) (ar0 : List Bool) : Prop := 0 ≤ a35 ∧ (a35 ≤ (↑L.toNat : Int) ∨ a35 ≤ 0) ∧ (↑al14.length : Int) ≤ 1000000 * (a35 - 0) ∧ ar0.length = ((List.replicate L.toNat false).set 0 true).length
noncomputable def L12a.mu (L : Int) (j : Int) (l : Int) (n : Nat) (f : Nat → Int) (m : Nat) (g : Nat → Int) (av14 : Nat) (al14 : List Int) (a35 : Int) (ar0 : List Bool) : Nat := ((↑L.toNat : Int) - a35).toNat
noncomputable def L12a.E : L12a.O → Exit
  | .e0 a0 a1 a2 => Exit.exit 0
noncomputable def L12a.X (L : Int) (j : Int) (l : Int) (n : Nat) (f : Nat → Int) (m : Nat) (g : Nat → Int) : L12a.O → List AV
  | .e0 a0 a1 a2 => mkT 84 [(14, (AV.ms 1 a0 1 0 (List.length a1)))]
noncomputable def L12a.XH (L : Int) (j : Int) (l : Int) (n : Nat) (f : Nat → Int) (m : Nat) (g : Nat → Int) : L12a.O → AHeap
  | .e0 a0 a1 a2 => ((AObj.row 1 (L.toNat) (Col.bools a2)) :: ((AObj.row 1 a0 (Col.ints IntKind.i64 a1)) :: ([])))
noncomputable def L12a.N (L : Int) (j : Int) (l : Int) (n : Nat) (f : Nat → Int) (m : Nat) (g : Nat → Int) : Nat → Nat → (List Int) → Int → (List Bool) → L12a.O
  | 0, av14, al14, _, ar0 => .e0 av14 al14 ar0
  | k_ + 1, av14, al14, a35, ar0 => (bif decide (a35 < (↑L.toNat : Int)) then (bif ar0.getD (0 + a35.toNat) false then (match L12ab.run L j l n f m g a35 0 ar0 with | .e0 h3d0 => (L12a.N L j l n f m g k_ (av14 + 1) (al14 ++ [a35]) (IntKind.i64.wrap (a35 + 1)) (h3d0)) ) else (L12a.N L j l n f m g k_ (av14) (al14) (IntKind.i64.wrap (a35 + 1)) (ar0))) else (.e0 (av14) (al14) (ar0)))
noncomputable def L12a.run (L : Int) (j : Int) (l : Int) (n : Nat) (f : Nat → Int) (m : Nat) (g : Nat → Int) (av14 : Nat) (al14 : List Int) (a35 : Int) (ar0 : List Bool) : L12a.O := L12a.N L j l n f m g ((((↑L.toNat : Int) - a35).toNat) + 1) av14 al14 a35 ar0
theorem L12a.nx (L : Int) (j : Int) (l : Int) (n : Nat) (f : Nat → Int) (m : Nat) (g : Nat → Int) {k_ : Nat} {z_ : Nat × (List Int) × Int × (List Bool)} {h_ : AHeap} (s_ : Nat × (List Int) × Int × (List Bool)) (h1 : L12a.inv L j l n f m g s_.1 s_.2.1 s_.2.2.1 s_.2.2.2) (h2 : L12a.mu L j l n f m g s_.1 s_.2.1 s_.2.2.1 s_.2.2.2 < L12a.mu L j l n f m g z_.1 z_.2.1 z_.2.2.1 z_.2.2.2) (h3 : L12a.N L j l n f m g k_ s_.1 s_.2.1 s_.2.2.1 s_.2.2.2 = L12a.N L j l n f m g (k_ + 1) z_.1 z_.2.1 z_.2.2.1 z_.2.2.2) (h4 : PopOk (L12a.H L j l n f m g z_.1 z_.2.1 z_.2.2.1 z_.2.2.2) h_ (L12a.T L j l n f m g s_.1 s_.2.1 s_.2.2.1 s_.2.2.2) (L12a.H L j l n f m g s_.1 s_.2.1 s_.2.2.1 s_.2.2.2)) : LNextP (fun (z_ : Nat × (List Int) × Int × (List Bool)) => L12a.T L j l n f m g z_.1 z_.2.1 z_.2.2.1 z_.2.2.2) (fun (z_ : Nat × (List Int) × Int × (List Bool)) => L12a.H L j l n f m g z_.1 z_.2.1 z_.2.2.1 z_.2.2.2) (fun (z_ : Nat × (List Int) × Int × (List Bool)) => L12a.inv L j l n f m g z_.1 z_.2.1 z_.2.2.1 z_.2.2.2) (fun (z_ : Nat × (List Int) × Int × (List Bool)) => L12a.mu L j l n f m g z_.1 z_.2.1 z_.2.2.1 z_.2.2.2) (fun (k_ : Nat) (z_ : Nat × (List Int) × Int × (List Bool)) => L12a.N L j l n f m g k_ z_.1 z_.2.1 z_.2.2.1 z_.2.2.2) k_ z_ (L12a.T L j l n f m g s_.1 s_.2.1 s_.2.2.1 s_.2.2.2) h_ := LNextP.mk (Tm := (fun (z_ : Nat × (List Int) × Int × (List Bool)) => L12a.T L j l n f m g z_.1 z_.2.1 z_.2.2.1 z_.2.2.2)) (Hp := (fun (z_ : Nat × (List Int) × Int × (List Bool)) => L12a.H L j l n f m g z_.1 z_.2.1 z_.2.2.1 z_.2.2.2)) (inv := (fun (z_ : Nat × (List Int) × Int × (List Bool)) => L12a.inv L j l n f m g z_.1 z_.2.1 z_.2.2.1 z_.2.2.2)) (mu := (fun (z_ : Nat × (List Int) × Int × (List Bool)) => L12a.mu L j l n f m g z_.1 z_.2.1 z_.2.2.1 z_.2.2.2)) (l := (fun (k_ : Nat) (z_ : Nat × (List Int) × Int × (List Bool)) => L12a.N L j l n f m g k_ z_.1 z_.2.1 z_.2.2.1 z_.2.2.2)) s_ h1 h2 h3 h4
theorem L12a.en (L : Int) (j : Int) (l : Int) (n : Nat) (f : Nat → Int) (m : Nat) (g : Nat → Int) {k_ : Nat} {z_ : Nat × (List Int) × Int × (List Bool)} {h_ : AHeap} (o_ : L12a.O) (h3 : L12a.N L j l n f m g (k_ + 1) z_.1 z_.2.1 z_.2.2.1 z_.2.2.2 = o_) (h4 : PopOk (L12a.H L j l n f m g z_.1 z_.2.1 z_.2.2.1 z_.2.2.2) h_ (L12a.X L j l n f m g o_) (L12a.XH L j l n f m g o_)) : LEndP (fun (z_ : Nat × (List Int) × Int × (List Bool)) => L12a.H L j l n f m g z_.1 z_.2.1 z_.2.2.1 z_.2.2.2) (fun (k_ : Nat) (z_ : Nat × (List Int) × Int × (List Bool)) => L12a.N L j l n f m g k_ z_.1 z_.2.1 z_.2.2.1 z_.2.2.2) L12a.E (L12a.X L j l n f m g) (L12a.XH L j l n f m g) k_ z_ (L12a.E o_) (L12a.X L j l n f m g o_) h_ := LEndP.mk (Hp := (fun (z_ : Nat × (List Int) × Int × (List Bool)) => L12a.H L j l n f m g z_.1 z_.2.1 z_.2.2.1 z_.2.2.2)) (l := (fun (k_ : Nat) (z_ : Nat × (List Int) × Int × (List Bool)) => L12a.N L j l n f m g k_ z_.1 z_.2.1 z_.2.2.1 z_.2.2.2)) (oE := L12a.E) (oT := L12a.X L j l n f m g) (oH := L12a.XH L j l n f m g) o_ h3 h4
theorem L12a.spec (L : Int) (j : Int) (l : Int) (n : Nat) (f : Nat → Int) (hn : n ≤ 9223372036854775807) (m : Nat) (g : Nat → Int) (hm : m ≤ 9223372036854775807) (k0_1 : (r32.v L j l n f m g == 0) = true) (p0_1 : r32.v L j l n f m g = 0) (k_ : Nat) (z_ : Nat × (List Int) × Int × (List Bool)) (hi_ : L12a.inv L j l n f m g z_.1 z_.2.1 z_.2.2.1 z_.2.2.2) (hm_ : L12a.mu L j l n f m g z_.1 z_.2.1 z_.2.2.1 z_.2.2.2 < k_) : LoopTo Try.prog (loopN Try.f12 0) (L12a.T L j l n f m g z_.1 z_.2.1 z_.2.2.1 z_.2.2.2) (L12a.H L j l n f m g z_.1 z_.2.1 z_.2.2.1 z_.2.2.2) (L12a.E (L12a.N L j l n f m g k_ z_.1 z_.2.1 z_.2.2.1 z_.2.2.2)) (L12a.X L j l n f m g (L12a.N L j l n f m g k_ z_.1 z_.2.1 z_.2.2.1 z_.2.2.2)) (L12a.XH L j l n f m g (L12a.N L j l n f m g k_ z_.1 z_.2.1 z_.2.2.1 z_.2.2.2)) := by
  refine LoopTo.fuelP mix (fun (z_ : Nat × (List Int) × Int × (List Bool)) => L12a.T L j l n f m g z_.1 z_.2.1 z_.2.2.1 z_.2.2.2) (fun (z_ : Nat × (List Int) × Int × (List Bool)) => L12a.H L j l n f m g z_.1 z_.2.1 z_.2.2.1 z_.2.2.2) (fun (z_ : Nat × (List Int) × Int × (List Bool)) => L12a.inv L j l n f m g z_.1 z_.2.1 z_.2.2.1 z_.2.2.2) (fun (z_ : Nat × (List Int) × Int × (List Bool)) => L12a.mu L j l n f m g z_.1 z_.2.1 z_.2.2.1 z_.2.2.2) (fun (k_ : Nat) (z_ : Nat × (List Int) × Int × (List Bool)) => L12a.N L j l n f m g k_ z_.1 z_.2.1 z_.2.2.1 z_.2.2.2) L12a.E (L12a.X L j l n f m g) (L12a.XH L j l n f m g) (others 84 [0, 1, 2, 3, 4, 13, 14, 33, 34, 35]) (others 84 [10, 11]) (others 84 [14]) ?_ k_ z_ hi_ hm_
  clear hm_ hi_ z_ k_
  intro k_ z_ hinv hmu
  obtain ⟨av14, al14, a35, ar0⟩ := z_
  have hinv : 0 ≤ a35 ∧ (a35 ≤ (↑L.toNat : Int) ∨ a35 ≤ 0) ∧ (↑al14.length : Int) ≤ 1000000 * (a35 - 0) ∧ ar0.length = ((List.replicate L.toNat false).set 0 true).length := hinv
  have hmu : (((↑L.toNat : Int) - a35).toNat) < k_ + 1 := hmu
  cases h1 : decide (a35 < (↑L.toNat : Int)) with
  | true =>
    have h1p := of_decide_eq_true h1
    try have := bd_ok (by assumption) (by assumption) (by assumption)
    try have := bd_len (by assumption)
    try have := bd_sz (by assumption) (by first | assumption | omega) (by first | assumption | omega)
    try have := L12ab.lenR0_0 _ _ _ _ _ _ _ _ (by assumption); (try simp only [List.length_nil] at this)
    try have := L12ab.leqR0_0 _ _ _ _ _ _ _ _ (by assumption); (try simp only [List.length_replicate] at this)
    have o0 : (0 : Int) ≤ a35 := by omega
    have o1 : a35 < (↑L.toNat : Int) := by assumption
    have o2 : (0 : Nat) + a35.toNat < (Col.bools ar0).len := by simp only [Col.len, zero_bool, zero_int, List.length_replicate, List.length_set] at *; omega
    cases h2 : ar0.getD (0 + a35.toNat) false with
    | true =>
      try have := bd_ok (by assumption) (by assumption) (by assumption)
      try have := bd_len (by assumption)
      try have := bd_sz (by assumption) (by first | assumption | omega) (by first | assumption | omega)
      try have := L12ab.lenR0_0 _ _ _ _ _ _ _ _ (by assumption); (try simp only [List.length_nil] at this)
      try have := L12ab.leqR0_0 _ _ _ _ _ _ _ _ (by assumption); (try simp only [List.length_replicate] at this)
      have o3 : (al14.length + (1 : Nat)) * (8 : Nat) ≤ (140737488355328 : Nat) := by omega
      have o4 : al14.length = (Col.ints IntKind.i64 al14).len := by rfl
      have o5 : n ≤ (9223372036854775807 : Nat) := by assumption
      have o6 : m ≤ (9223372036854775807 : Nat) := by assumption
      have o7 : (r32.v L j l n f m g == (0 : Int)) = true := by assumption
      have o8 : r32.v L j l n f m g = (0 : Int) := by assumption
      have o9 : a35 ≤ (↑L.toNat : Int) ∨ a35 ≤ (0 : Int) := by omega
      have o10 : (↑al14.length : Int) ≤ (1000000 : Int) * (a35 - (0 : Int)) := by omega
      have o11 : ar0.length = ((List.replicate L.toNat false).set (0 : Nat) true).length := by omega
      have o12 : decide (a35 < (↑L.toNat : Int)) = true := by assumption
      have o13 : ar0.getD ((0 : Nat) + a35.toNat) false = true := by assumption
      have o14 : (0 : Int) ≤ (↑n : Int) ∨ (0 : Int) ≤ (0 : Int) := by omega
      cases h3 : L12ab.run L j l n f m g a35 0 ar0 with
      | e0 h3d0 =>
        try have := bd_ok (by assumption) (by assumption) (by assumption)
        try have := bd_len (by assumption)
        try have := bd_sz (by assumption) (by first | assumption | omega) (by first | assumption | omega)
        try have := L12ab.lenR0_0 _ _ _ _ _ _ _ _ (by assumption); (try simp only [List.length_nil] at this)
        try have := L12ab.leqR0_0 _ _ _ _ _ _ _ _ (by assumption); (try simp only [List.length_replicate] at this)
        try have := IntWalk.i64_in (a35 + 1) (by omega)
        have o15 : (0 : Int) ≤ IntKind.i64.wrap (a35 + (1 : Int)) := by omega
        have o16 : IntKind.i64.wrap (a35 + (1 : Int)) ≤ (↑L.toNat : Int) ∨ IntKind.i64.wrap (a35 + (1 : Int)) ≤ (0 : Int) := by omega
        have o17 : (↑(al14 ++ [a35]).length : Int) ≤ (1000000 : Int) * (IntKind.i64.wrap (a35 + (1 : Int)) - (0 : Int)) := by simp only [List.length_append, List.length_cons, List.length_nil, List.length_map]; omega
        have o18 : h3d0.length = ((List.replicate L.toNat false).set (0 : Nat) true).length := by omega
        have o19 : ((↑L.toNat : Int) - IntKind.i64.wrap (a35 + (1 : Int))).toNat < ((↑L.toNat : Int) - a35).toNat := by omega
        exact ⟨[.b true, .b false, .app .one false, .loop (others 84 [0, 1, 2, 3, 4, 13, 14, 15, 33, 34, 35, 46, 47, 48]) (Exit.exit 2) (L12ab.X L j l n f m g av14 al14 a35 ar0 (L12ab.O.e0 h3d0)) (L12ab.XH L j l n f m g av14 al14 a35 ar0 (L12ab.O.e0 h3d0))], kmp (by kernel_rfl) (And.intro h1 (And.intro (And.intro o0 o1) (And.intro (And.intro (rfl : L.toNat = L.toNat) (And.intro (show (1 : Nat) = (1 : Nat) by decide) o2)) (And.intro (show (bnot (ar0.getD (0 + a35.toNat) false)) = false by rw [h2]; try rfl) (And.intro (And.intro (show (1 : Nat) = (1 : Nat) by decide) (And.intro (show AppMode.one.needs 1 fun (a : Nat) => (Col.ofList [AV.int IntKind.i64 a35]).get a by exact ⟨rfl, rfl⟩) (And.intro o3 (And.intro (rfl : av14 = av14) (And.intro (show (0 : Nat) = (0 : Nat) by decide) o4))))) (And.intro (L12ab.e0 (L) (j) (l) (n) (f) o5 (m) (g) o6 o7 o8 (av14) (al14) (a35) (ar0) o0 o9 o10 o11 o12 o1 o13 (0) (ar0) (And.intro (show (0 : Int) ≤ (0 : Int) by decide) (And.intro o14 (rfl : ar0.length = ar0.length))) h3d0 h3) (L12a.nx L j l n f m g (k_ := k_) (z_ := (av14, al14, a35, ar0)) ((av14 + 1, al14 ++ [a35], IntKind.i64.wrap (a35 + 1), h3d0)) (And.intro o15 (And.intro o16 (And.intro o17 o18))) o19 (by simp only [L12a.N, h1, h2, h3, cond_true, cond_false]) PopOk.same)))))))⟩
    | false =>
      try have := bd_ok (by assumption) (by assumption) (by assumption)
      try have := bd_len (by assumption)
      try have := bd_sz (by assumption) (by first | assumption | omega) (by first | assumption | omega)
      try have := L12ab.lenR0_0 _ _ _ _ _ _ _ _ (by assumption); (try simp only [List.length_nil] at this)
      try have := L12ab.leqR0_0 _ _ _ _ _ _ _ _ (by assumption); (try simp only [List.length_replicate] at this)
      try have := IntWalk.i64_in (a35 + 1) (by omega)
      have o15 : (0 : Int) ≤ IntKind.i64.wrap (a35 + (1 : Int)) := by omega
      have o16 : IntKind.i64.wrap (a35 + (1 : Int)) ≤ (↑L.toNat : Int) ∨ IntKind.i64.wrap (a35 + (1 : Int)) ≤ (0 : Int) := by omega
      have o20 : (↑al14.length : Int) ≤ (1000000 : Int) * (IntKind.i64.wrap (a35 + (1 : Int)) - (0 : Int)) := by omega
      have o11 : ar0.length = ((List.replicate L.toNat false).set (0 : Nat) true).length := by omega
      have o19 : ((↑L.toNat : Int) - IntKind.i64.wrap (a35 + (1 : Int))).toNat < ((↑L.toNat : Int) - a35).toNat := by omega
      exact ⟨[.b true, .b true], kmp (by kernel_rfl) (And.intro h1 (And.intro (And.intro o0 o1) (And.intro (And.intro (rfl : L.toNat = L.toNat) (And.intro (show (1 : Nat) = (1 : Nat) by decide) o2)) (And.intro (show (bnot (ar0.getD (0 + a35.toNat) false)) = true by rw [h2]; try rfl) (L12a.nx L j l n f m g (k_ := k_) (z_ := (av14, al14, a35, ar0)) ((av14, al14, IntKind.i64.wrap (a35 + 1), ar0)) (And.intro o15 (And.intro o16 (And.intro o20 o11))) o19 (by simp only [L12a.N, h1, h2, cond_true, cond_false]) PopOk.same)))))⟩
  | false =>
    have h1p := of_decide_eq_false h1
    exact ⟨[.b false], kmp (by kernel_rfl) (And.intro h1 (L12a.en L j l n f m g (k_ := k_) (z_ := (av14, al14, a35, ar0)) (.e0 (av14) (al14) (ar0) : L12a.O) (by simp only [L12a.N, h1, cond_true, cond_false]) PopOk.same))⟩
theorem L12a.e0 (L : Int) (j : Int) (l : Int) (n : Nat) (f : Nat → Int) (hn : n ≤ 9223372036854775807) (m : Nat) (g : Nat → Int) (hm : m ≤ 9223372036854775807) (k0_1 : (r32.v L j l n f m g == 0) = true) (p0_1 : r32.v L j l n f m g = 0) (av14 : Nat) (al14 : List Int) (a35 : Int) (ar0 : List Bool) (hinv : L12a.inv L j l n f m g av14 al14 a35 ar0) (a0 : Nat) (a1 : List Int) (a2 : List Bool) (hN : L12a.run L j l n f m g av14 al14 a35 ar0 = (.e0 a0 a1 a2 : L12a.O)) : LoopTo Try.prog (loopN Try.f12 0) (L12a.T L j l n f m g av14 al14 a35 ar0) (L12a.H L j l n f m g av14 al14 a35 ar0) (Exit.exit 0) (L12a.X L j l n f m g (.e0 a0 a1 a2 : L12a.O)) (L12a.XH L j l n f m g (.e0 a0 a1 a2 : L12a.O)) := by
  have h_ := L12a.spec L j l n f hn m g hm k0_1 p0_1 ((((↑L.toNat : Int) - a35).toNat) + 1) (av14, al14, a35, ar0) hinv (Nat.lt_succ_self _)
  unfold L12a.run at hN
  simp only [hN] at h_
  exact h_
theorem L12a.leq0_2 (L : Int) (j : Int) (l : Int) (n : Nat) (f : Nat → Int) (m : Nat) (g : Nat → Int) : ∀ (m_ : Nat) (av14 : Nat) (al14 : List Int) (a35 : Int) (ar0 : List Bool) (a0_ : Nat) (a1_ : List Int) (a2_ : List Bool), L12a.N L j l n f m g m_ av14 al14 a35 ar0 = (.e0 a0_ a1_ a2_ : L12a.O) → (a2_).length = (ar0).length := by
  intro m_
  induction m_ with
  | zero =>
    intro av14 al14 a35 ar0 a0_ a1_ a2_ h_
    simp only [L12a.N] at h_
    cases h_
    try rfl
  | succ m_ ih_ =>
    intro av14 al14 a35 ar0 a0_ a1_ a2_ h_
    cases h1 : decide (a35 < (↑L.toNat : Int)) with
    | true =>
      have h1p := of_decide_eq_true h1
      cases h2 : ar0.getD (0 + a35.toNat) false with
      | true =>
        cases h3 : L12ab.run L j l n f m g a35 0 ar0 with
        | e0 h3d0 =>
          (simp only [L12a.N, h1, h2, h3, cond_true, cond_false] at h_; first | (have q_ := ih_ _ _ _ _ _ _ _ h_; (try have := L12ab.lenR0_0 _ _ _ _ _ _ _ _ (by assumption); (try simp only [List.length_nil] at this)); (try have := L12ab.leqR0_0 _ _ _ _ _ _ _ _ (by assumption); (try simp only [List.length_replicate] at this)); (try simp only [List.length_set] at *); omega) | (cases h_; done) | (cases h_; first | rfl | simp))
      | false =>
        (simp only [L12a.N, h1, h2, cond_true, cond_false] at h_; first | (have q_ := ih_ _ _ _ _ _ _ _ h_; (try have := L12ab.lenR0_0 _ _ _ _ _ _ _ _ (by assumption); (try simp only [List.length_nil] at this)); (try have := L12ab.leqR0_0 _ _ _ _ _ _ _ _ (by assumption); (try simp only [List.length_replicate] at this)); (try simp only [List.length_set] at *); omega) | (cases h_; done) | (cases h_; first | rfl | simp))
    | false =>
      have h1p := of_decide_eq_false h1
      (simp only [L12a.N, h1, cond_true, cond_false] at h_; first | (have q_ := ih_ _ _ _ _ _ _ _ h_; (try have := L12ab.lenR0_0 _ _ _ _ _ _ _ _ (by assumption); (try simp only [List.length_nil] at this)); (try have := L12ab.leqR0_0 _ _ _ _ _ _ _ _ (by assumption); (try simp only [List.length_replicate] at this)); (try simp only [List.length_set] at *); omega) | (cases h_; done) | (cases h_; first | rfl | simp))
theorem L12a.leqR0_2 (L : Int) (j : Int) (l : Int) (n : Nat) (f : Nat → Int) (m : Nat) (g : Nat → Int) {av14 : Nat} {al14 : List Int} {a35 : Int} {ar0 : List Bool} {a0_ : Nat} {a1_ : List Int} {a2_ : List Bool} (h_ : L12a.run L j l n f m g av14 al14 a35 ar0 = (.e0 a0_ a1_ a2_ : L12a.O)) : (a2_).length = (ar0).length := L12a.leq0_2 L j l n f m g _ av14 al14 a35 ar0 a0_ a1_ a2_ h_
noncomputable def r12.v0 (L : Int) (j : Int) (l : Int) (n : Nat) (f : Nat → Int) (m : Nat) (g : Nat → Int) : List Int := (bif r32.v L j l n f m g == 0 then (match L12a.run L j l n f m g 0 [] 0 ((List.replicate L.toNat false).set 0 true) with | .e0 h2d0 h2d1 h2d2 => h2d1 ) else ([] : List Int))
noncomputable def r12.v1 (L : Int) (j : Int) (l : Int) (n : Nat) (f : Nat → Int) (m : Nat) (g : Nat → Int) : Int := (bif r32.v L j l n f m g == 0 then (match L12a.run L j l n f m g 0 [] 0 ((List.replicate L.toNat false).set 0 true) with | .e0 h2d0 h2d1 h2d2 => 0 ) else r32.v L j l n f m g)
theorem r12 (L : Int) (j : Int) (l : Int) (n : Nat) (f : Nat → Int) (hn : n ≤ 9223372036854775807) (m : Nat) (g : Nat → Int) (hm : m ≤ 9223372036854775807) (h : AHeap) : Ret Try.prog 12 ([AV.int IntKind.i64 L, AV.int IntKind.i64 j, AV.int IntKind.i64 l, ivs n f, ivs m g]) h (AV.tup [(avInts IntKind.i64 (r12.v0 L j l n f m g)), (AV.int IntKind.i64 (r12.v1 L j l n f m g))]) h := by
  try have := bd_ok (by first | assumption | omega) (by first | assumption | omega) (by first | assumption | omega)
  try have := bd_len (by first | assumption | omega)
  try have := bd_sz (by first | assumption | omega) (by first | assumption | omega) (by first | assumption | omega)
  have o0 : n ≤ (9223372036854775807 : Nat) := by assumption
  have o1 : m ≤ (9223372036854775807 : Nat) := by assumption
  cases h1 : r32.v L j l n f m g == 0 with
  | true =>
    have h1p := eq_of_beq h1
    try have := bd_ok (by assumption) (by assumption) (by assumption)
    try have := bd_len (by assumption)
    try have := bd_sz (by assumption) (by first | assumption | omega) (by first | assumption | omega)
    try have := L12a.leqR0_2 _ _ _ _ _ _ _ (by assumption); (try simp only [List.length_replicate] at this)
    have o2 : (0 : Int) ≤ L := by omega
    have o3 : (1 : Int) * L ≤ (281474976710656 : Int) := by omega
    have o4 : L ≤ (9223372036854775807 : Int) := by omega
    have o5 : (0 : Int) < (↑L.toNat : Int) := by omega
    have o6 : (0 : Nat) < (Col.zero (ofV (Value.bool false)) L.toNat).len := by simp only [Col.len, zero_bool, zero_int, List.length_replicate, List.length_set] at *; omega
    have o7 : (r32.v L j l n f m g == (0 : Int)) = true := by assumption
    have o8 : r32.v L j l n f m g = (0 : Int) := by assumption
    have o9 : (0 : Int) ≤ (↑L.toNat : Int) ∨ (0 : Int) ≤ (0 : Int) := by omega
    cases h2 : L12a.run L j l n f m g 0 [] 0 ((List.replicate L.toNat false).set 0 true) with
    | e0 h2d0 h2d1 h2d2 =>
      try have := bd_ok (by assumption) (by assumption) (by assumption)
      try have := bd_len (by assumption)
      try have := bd_sz (by assumption) (by first | assumption | omega) (by first | assumption | omega)
      try have := L12a.leqR0_2 _ _ _ _ _ _ _ (by assumption); (try simp only [List.length_replicate] at this)
      have o10 : (0 : Nat) + h2d1.length ≤ (Col.ints IntKind.i64 h2d1).len := by simp [Col.len]
      exact Ret.of_run1 mix [(avInts IntKind.i64 (r12.v0 L j l n f m g)), (AV.int IntKind.i64 (r12.v1 L j l n f m g))] Try.func12 rfl [.ret (AV.int IntKind.i64 (r32.v L j l n f m g)) ([]), .b false, .virt [] [(none, 14, 1, Col.ints IntKind.i64 [])], .loop (others 84 [0, 1, 2, 3, 4, 13, 14, 33, 34, 35]) (Exit.exit 0) (L12a.X L j l n f m g (L12a.O.e0 h2d0 h2d1 h2d2)) (L12a.XH L j l n f m g (L12a.O.e0 h2d0 h2d1 h2d2))] (by simp) (by simp) (kmp (by kernel_rfl) (And.intro (r32 (L) (j) (l) (n) (f) o0 (m) (g) o1 ([])) (And.intro (show (bnot (r32.v L j l n f m g == 0)) = false by rw [h1]; try rfl) (And.intro (And.intro (rfl : L = L) (And.intro o2 (And.intro o3 o4))) (And.intro (And.intro (show (0 : Int) ≤ (0 : Int) by decide) o5) (And.intro (And.intro (rfl : L.toNat = L.toNat) o6) (And.intro (And.intro (rfl : AV.snil = AV.snil) (And.intro (rfl : (0 : Nat) = 0) trivial)) (And.intro (L12a.e0 (L) (j) (l) (n) (f) o0 (m) (g) o1 o7 o8 (0) ([]) (0) ((List.replicate L.toNat false).set 0 true) (And.intro (show (0 : Int) ≤ (0 : Int) by decide) (And.intro o9 (And.intro (show (0 : Int) ≤ (0 : Int) by decide) (rfl : ((List.replicate L.toNat false).set (0 : Nat) true).length = ((List.replicate L.toNat false).set (0 : Nat) true).length)))) h2d0 h2d1 h2d2 h2) (And.intro (And.intro (rfl : h2d0 = h2d0) (And.intro (show (1 : Nat) = (1 : Nat) by decide) (And.intro o10 (show ((avInts IntKind.i64 h2d1)) = ((avInts IntKind.i64 (r12.v0 L j l n f m g))) by simp only [r12.v0, r12.v1, h1, h2, cond_true, cond_false])))) (And.intro (show (AV.int IntKind.i64 0) = ((AV.int IntKind.i64 (r12.v1 L j l n f m g))) by simp only [r12.v0, r12.v1, h1, h2, cond_true, cond_false]) trivial)))))))))) h
  | false =>
    have h1p := ne_of_beq_false h1
    exact Ret.val (show (AV.tup [(avInts IntKind.i64 ([] : List Int)), AV.int IntKind.i64 (r32.v L j l n f m g)]) = (AV.tup [(avInts IntKind.i64 (r12.v0 L j l n f m g)), (AV.int IntKind.i64 (r12.v1 L j l n f m g))]) by simp only [r12.v0, r12.v1, h1, cond_true, cond_false]) (Ret.of_run1 mix [(avInts IntKind.i64 ([] : List Int)), AV.int IntKind.i64 (r32.v L j l n f m g)] Try.func12 rfl [.ret (AV.int IntKind.i64 (r32.v L j l n f m g)) ([]), .b true] (by simp) (by simp) (kmp (by kernel_rfl) (And.intro (r32 (L) (j) (l) (n) (f) o0 (m) (g) o1 ([])) (And.intro (show (bnot (r32.v L j l n f m g == 0)) = true by rw [h1]; try rfl) (And.intro (rfl : ((avInts IntKind.i64 ([] : List Int))) = ((avInts IntKind.i64 ([] : List Int)))) (And.intro (rfl : (AV.int IntKind.i64 (r32.v L j l n f m g)) = (AV.int IntKind.i64 (r32.v L j l n f m g))) trivial))))) h)
end Go.Proofs.Ytjdbmmilcihpoaa
open Go
namespace Go.Proofs.Ytjdbmmilcihpoaa
set_option linter.unusedSimpArgs false
set_option linter.unusedVariables false
set_option maxHeartbeats 0
set_option maxRecDepth 100000
def noI (_ : Nat) : Int := 0
theorem nil_imp : Imp AV.snil (ivs 0 noI) := fun m Mut w v h => by cases h with | snil a => exact .sl0 _ _ _ _
theorem s11 (L j l : Int) (n : Nat) (f : Nat → Int) (hn : n ≤ 9223372036854775807) (h : AHeap) : Ret Try.prog 11 [AV.int .i64 L, .int .i64 j, .int .i64 l, ivs n f, AV.snil] h (AV.tup [(avInts IntKind.i64 (r11.v0 L j l n f 0 noI)), (AV.int IntKind.i64 (r11.v1 L j l n f 0 noI))]) h :=
  (r11 L j l n f hn 0 noI (by omega) h).imp (.cons (.refl _) (.cons (.refl _) (.cons (.refl _) (.cons (.refl _) (.cons nil_imp .nil)))))
theorem s12 (L j l : Int) (n : Nat) (f : Nat → Int) (hn : n ≤ 9223372036854775807) (h : AHeap) : Ret Try.prog 12 [AV.int .i64 L, .int .i64 j, .int .i64 l, ivs n f, AV.snil] h (AV.tup [(avInts IntKind.i64 (r12.v0 L j l n f 0 noI)), (AV.int IntKind.i64 (r12.v1 L j l n f 0 noI))]) h :=
  (r12 L j l n f hn 0 noI (by omega) h).imp (.cons (.refl _) (.cons (.refl _) (.cons (.refl _) (.cons (.refl _) (.cons nil_imp .nil)))))
theorem s13 (L j l : Int) (n : Nat) (f : Nat → Int) (hn : n ≤ 9223372036854775807) (k : Nat) (s : Nat → Int) (hk : k ≤ 9223372036854775807) (h : AHeap) : Ret Try.prog 13 [AV.int .i64 L, .int .i64 j, .int .i64 l, ivs n f, AV.snil, ivs k s] h (AV.bool (r13.v L j l n f 0 noI k s)) h :=
  (r13 L j l n f hn 0 noI (by omega) k s hk h).imp (.cons (.refl _) (.cons (.refl _) (.cons (.refl _) (.cons (.refl _) (.cons nil_imp (.cons (.refl _) .nil))))))
noncomputable def r9.v : Bool := 0 == 0
theorem r9 (h : AHeap) : Ret Try.prog 9 ([]) h (AV.bool r9.v) h := by
  exact Ret.of_run1 mix [(AV.bool r9.v)] Try.func9 rfl [.ret (AV.tup [AV.sl 1 3 fun (a : Nat) => AV.int IntKind.i64 ((r11.v0 100 10 20 3 (fun (i : Nat) => (20 :: (fun (x : List Int) => 30 :: x) ((fun (x : List Int) => 40 :: x) [])).getD i 0) 0 noI).getD a 0), AV.int IntKind.i64 0]) ([]), .ret (AV.tup [AV.sl 1 0 fun (a : Nat) => AV.int IntKind.i64 ((r11.v0 100 10 20 3 (fun (i : Nat) => (20 :: (fun (x : List Int) => 30 :: x) ((fun (x : List Int) => 40 :: x) [])).getD i 0) 1 fun (i : Nat) => [60].getD i 0).getD a 0), AV.int IntKind.i64 9]) ([]), .ret (AV.tup [AV.sl 1 2 fun (a : Nat) => AV.int IntKind.i64 ((r12.v0 60 10 0 1 (fun (i : Nat) => [20].getD i 0) 0 noI).getD a 0), AV.int IntKind.i64 0]) ([]), .b true, .b true, .b true, .ret (AV.bool (r17.v 3 (fun (i : Nat) => (r11.v0 100 10 20 3 (fun (i : Nat) => (20 :: (fun (x : List Int) => 30 :: x) ((fun (x : List Int) => 40 :: x) [])).getD i 0) 0 noI).getD i 0) 3 fun (i : Nat) => (20 :: (fun (x : List Int) => 20 :: x) ((fun (x : List Int) => 40 :: x) [])).getD i 0)) ([]), .b true, .b true, .b true, .b true, .b true, .b true, .b true, .b true, .b true, .b true, .ret (AV.bool (r17.v 2 (fun (i : Nat) => (r12.v0 60 10 0 1 (fun (i : Nat) => [20].getD i 0) 0 noI).getD i 0) 2 fun (i : Nat) => (0 :: (fun (x : List Int) => 30 :: x) []).getD i 0)) ([]), .b true, .b true, .b true, .b true, .ret (AV.bool (r13.v 100 10 20 3 (fun (i : Nat) => (20 :: (fun (x : List Int) => 30 :: x) ((fun (x : List Int) => 40 :: x) [])).getD i 0) 0 noI 3 fun (i : Nat) => (40 :: (fun (x : List Int) => 20 :: x) ((fun (x : List Int) => 20 :: x) [])).getD i 0)) ([]), .b true, .b true, .b true, .ret (AV.int IntKind.i64 0) ([]), .b true, .b true] (by simp) (by simp) (kmp (by kernel_rfl) (And.intro (s11 (100) (10) (20) (3) (fun (i : Nat) => (20 :: (fun (x : List Int) => 30 :: x) ((fun (x : List Int) => 40 :: x) [])).getD i 0) (show (3 : Nat) ≤ (9223372036854775807 : Nat) by first | decide | exact Int.NonNeg.mk _) ([])) (And.intro (r11 (100) (10) (20) (3) (fun (i : Nat) => (20 :: (fun (x : List Int) => 30 :: x) ((fun (x : List Int) => 40 :: x) [])).getD i 0) (show (3 : Nat) ≤ (9223372036854775807 : Nat) by first | decide | exact Int.NonNeg.mk _) (1) (fun (i : Nat) => [60].getD i 0) (show (1 : Nat) ≤ (9223372036854775807 : Nat) by first | decide | exact Int.NonNeg.mk _) ([])) (And.intro (s12 (60) (10) (0) (1) (fun (i : Nat) => [20].getD i 0) (show (1 : Nat) ≤ (9223372036854775807 : Nat) by first | decide | exact Int.NonNeg.mk _) ([])) (And.intro (rfl : true = true) (And.intro (rfl : true = true) (And.intro (rfl : true = true) (And.intro (r17 (3) (fun (i : Nat) => (r11.v0 100 10 20 3 (fun (i : Nat) => (20 :: (fun (x : List Int) => 30 :: x) ((fun (x : List Int) => 40 :: x) [])).getD i 0) 0 noI).getD i 0) (show (3 : Nat) ≤ (9223372036854775807 : Nat) by first | decide | exact Int.NonNeg.mk _) (3) (fun (i : Nat) => (20 :: (fun (x : List Int) => 20 :: x) ((fun (x : List Int) => 40 :: x) [])).getD i 0) (show (3 : Nat) ≤ (9223372036854775807 : Nat) by first | decide | exact Int.NonNeg.mk _) ([])) (And.intro (rfl : true = true) (And.intro (rfl : true = true) (And.intro (rfl : true = true) (And.intro (rfl : true = true) (And.intro (rfl : true = true) (And.intro (rfl : true = true) (And.intro (rfl : true = true) (And.intro (rfl : true = true) (And.intro (rfl : true = true) (And.intro (rfl : true = true) (And.intro (r17 (2) (fun (i : Nat) => (r12.v0 60 10 0 1 (fun (i : Nat) => [20].getD i 0) 0 noI).getD i 0) (show (2 : Nat) ≤ (9223372036854775807 : Nat) by first | decide | exact Int.NonNeg.mk _) (2) (fun (i : Nat) => (0 :: (fun (x : List Int) => 30 :: x) []).getD i 0) (show (2 : Nat) ≤ (9223372036854775807 : Nat) by first | decide | exact Int.NonNeg.mk _) ([])) (And.intro (rfl : true = true) (And.intro (rfl : true = true) (And.intro (rfl : true = true) (And.intro (rfl : true = true) (And.intro (s13 (100) (10) (20) (3) (fun (i : Nat) => (20 :: (fun (x : List Int) => 30 :: x) ((fun (x : List Int) => 40 :: x) [])).getD i 0) (show (3 : Nat) ≤ (9223372036854775807 : Nat) by first | decide | exact Int.NonNeg.mk _) (3) (fun (i : Nat) => (40 :: (fun (x : List Int) => 20 :: x) ((fun (x : List Int) => 20 :: x) [])).getD i 0) (show (3 : Nat) ≤ (9223372036854775807 : Nat) by first | decide | exact Int.NonNeg.mk _) ([])) (And.intro (rfl : true = true) (And.intro (rfl : true = true) (And.intro (rfl : true = true) (And.intro (c24w ([])) (And.intro (rfl : true = true) (And.intro (rfl : true = true) (And.intro (show (AV.bool (0 == 0)) = ((AV.bool r9.v)) by first | (simp only [r9.v, cond_true, cond_false]; done) | (try unfold r9.v; try rfl; done) | rfl) trivial))))))))))))))))))))))))))))))) h
end Go.Proofs.Ytjdbmmilcihpoaa
open Go
namespace Go.Proofs.Ytjdbmmilcihpoaa
set_option maxHeartbeats 0
set_option maxRecDepth 100000
set_option linter.unusedVariables false
set_option linter.unusedSimpArgs false
theorem small_n {w : WD} (h : r20.v w = true) : w.n ≤ 10000 := by
  unfold r20.v at h
  by_cases h1 : (w.n : Int) > 30
  · rw [decide_eq_true h1, cond_true] at h
    by_cases h2 : (w.n : Int) ≤ 512
    · rw [decide_eq_true h2] at h; cases h
    · rw [decide_eq_false h2, cond_false] at h
      by_cases h3 : (w.n : Int) > 520
      · rw [decide_eq_true h3] at h; cases h
      · omega
  · omega
end Go.Proofs.Ytjdbmmilcihpoaa
open Go
namespace Go.Proofs.Ytjdbmmilcihpoaa
set_option linter.unusedSimpArgs false
set_option linter.unusedVariables false
set_option maxHeartbeats 0
set_option maxRecDepth 100000
noncomputable def r8.v (w : WD) : Bool := (bif r20.v w then (bif r24.v w == r21.v w then (bif r21.v w == 0 then true else (bif e26.v w == r21.v w then (bif e29.v w == r21.v w then (bif e22.v3 w == r21.v w then (bif e25.v w == r21.v w then 0 == 0 else false) else false) else false) else false)) else false) else true)
noncomputable abbrev r8.h0 (w : WD) : AHeap := ([AObj.var (WD.av w)])
noncomputable abbrev r8.h1 (w : WD) : AHeap := ([AObj.var (WD.av w), AObj.var (AV.agg [AV.int IntKind.i64 0, AV.int IntKind.i64 0, AV.int IntKind.i64 0])])
theorem r8 (w : WD) (hw : w.n ≤ 9223372036854775807) (hnm : w.nm.size ≤ 9223372036854775807) (hg : ∀ (i : Nat), (w.g i).nm.size ≤ 9223372036854775807) (h : AHeap) : Ret Try.prog 8 ([w.av]) h (AV.bool (r8.v w)) h := by
  have o0 : w.n ≤ (9223372036854775807 : Nat) := by assumption
  cases h1 : r20.v w with
  | true =>
    have o1 : w.n ≤ (10000 : Nat) := by first | assumption | omega | (apply small_n <;> first | assumption | omega) | (exact hg _) | (exact hg _ (by omega)) | (simp_all; done)
    have o2 : w.nm.size ≤ (9223372036854775807 : Nat) := by assumption
    have o3 : ∀ (i : Nat), (w.g i).nm.size ≤ (9223372036854775807 : Nat) := by assumption
    cases h2 : r24.v w == r21.v w with
    | true =>
      have h2p := eq_of_beq h2
      cases h3 : r21.v w == 0 with
      | true =>
        have h3p := eq_of_beq h3
        exact Ret.of_run1 mix [(AV.bool (r8.v w))] Try.func8 rfl [.ret (AV.bool r9.v) (r8.h0 w), .b false, .ret (AV.bool (r20.v w)) (r8.h0 w), .b false, .ret (AV.int IntKind.i64 (r21.v w)) (r8.h0 w), .ret (AV.int IntKind.i64 (r24.v w)) (r8.h0 w), .b false, .b true] (by simp) (by simp) (kmp (by kernel_rfl) (And.intro (r9 (r8.h0 w)) (And.intro (rfl : false = false) (And.intro (r20 (w) o0 (r8.h0 w)) (And.intro (show (bnot (r20.v w)) = false by rw [h1]; try rfl) (And.intro (r21 (w) o1 o2 o3 (r8.h0 w)) (And.intro (r24 (w) o1 o2 o3 (r8.h0 w)) (And.intro (show (bnot (r24.v w == r21.v w)) = false by rw [h2]; try rfl) (And.intro h3 (And.intro (show (AV.bool true) = ((AV.bool (r8.v w))) by simp only [r8.v, h1, h2, h3, cond_true, cond_false]) trivial)))))))))) h
      | false =>
        have h3p := ne_of_beq_false h3
        have o4 : (r24.v w == (0 : Int)) = false := by simp_all
        cases h4 : e26.v w == r21.v w with
        | true =>
          have h4p := eq_of_beq h4
          cases h5 : e29.v w == r21.v w with
          | true =>
            have h5p := eq_of_beq h5
            cases h6 : e22.v3 w == r21.v w with
            | true =>
              have h6p := eq_of_beq h6
              cases h7 : e25.v w == r21.v w with
              | true =>
                have h7p := eq_of_beq h7
                exact Ret.of_run1 mix [(AV.bool (r8.v w))] Try.func8 rfl [.ret (AV.bool r9.v) (r8.h0 w), .b false, .ret (AV.bool (r20.v w)) (r8.h0 w), .b false, .ret (AV.int IntKind.i64 (r21.v w)) (r8.h0 w), .ret (AV.int IntKind.i64 (r24.v w)) (r8.h0 w), .b false, .b false, .ret (AV.tup [AV.snil, AV.int IntKind.i64 (e26.v w)]) (r8.h0 w), .ret (AV.tup [AV.snil, AV.int IntKind.i64 (e29.v w)]) (r8.h0 w), .ret (AV.tup [AV.agg [AV.int IntKind.i64 0, AV.int IntKind.i64 0, AV.int IntKind.i64 0], AV.int IntKind.i64 (e22.v3 w)]) (r8.h0 w), .ret (AV.tup [AV.snil, AV.int IntKind.i64 (e25.v w)]) (r8.h1 w), .b true, .b true, .b true, .b true, .b true, .b true, .b true, .b true, .b true, .b true, .b true, .b true, .b true, .b true, .b true, .b true, .b true, .b true, .b true, .b true, .b true, .b true, .b true, .b true, .b true, .b true, .b true, .b true] (by simp) (by simp) (kmp (by kernel_rfl) (And.intro (r9 (r8.h0 w)) (And.intro (rfl : false = false) (And.intro (r20 (w) o0 (r8.h0 w)) (And.intro (show (bnot (r20.v w)) = false by rw [h1]; try rfl) (And.intro (r21 (w) o1 o2 o3 (r8.h0 w)) (And.intro (r24 (w) o1 o2 o3 (r8.h0 w)) (And.intro (show (bnot (r24.v w == r21.v w)) = false by rw [h2]; try rfl) (And.intro h3 (And.intro (e26 (w) o1 o2 o3 o4 (r8.h0 w)) (And.intro (e29 (w) o1 o2 o3 o4 (0) (r8.h0 w)) (And.intro (e22 (w) o1 o2 o3 o4 (r8.h0 w)) (And.intro (e25 (w) o1 o2 o3 o4 (ByteArray.mk #[97]) (r8.h1 w)) (And.intro h4 (And.intro h4 (And.intro h4 (And.intro h4 (And.intro h5 (And.intro h5 (And.intro h5 (And.intro h5 (And.intro h6 (And.intro h6 (And.intro h6 (And.intro h6 (And.intro h7 (And.intro h7 (And.intro h7 (And.intro h7 (And.intro (rfl : true = true) (And.intro (rfl : true = true) (And.intro (rfl : true = true) (And.intro (rfl : true = true) (And.intro (rfl : true = true) (And.intro (rfl : true = true) (And.intro (rfl : true = true) (And.intro (rfl : true = true) (And.intro (rfl : true = true) (And.intro (rfl : true = true) (And.intro (rfl : true = true) (And.intro (rfl : true = true) (And.intro (show (AV.bool (0 == 0)) = ((AV.bool (r8.v w))) by simp only [r8.v, h1, h2, h3, h4, h5, h6, h7, cond_true, cond_false]) trivial)))))))))))))))))))))))))))))))))))))))))) h
              | false =>
                have h7p := ne_of_beq_false h7
                exact Ret.of_run1 mix [(AV.bool (r8.v w))] Try.func8 rfl [.ret (AV.bool r9.v) (r8.h0 w), .b false, .ret (AV.bool (r20.v w)) (r8.h0 w), .b false, .ret (AV.int IntKind.i64 (r21.v w)) (r8.h0 w), .ret (AV.int IntKind.i64 (r24.v w)) (r8.h0 w), .b false, .b false, .ret (AV.tup [AV.snil, AV.int IntKind.i64 (e26.v w)]) (r8.h0 w), .ret (AV.tup [AV.snil, AV.int IntKind.i64 (e29.v w)]) (r8.h0 w), .ret (AV.tup [AV.agg [AV.int IntKind.i64 0, AV.int IntKind.i64 0, AV.int IntKind.i64 0], AV.int IntKind.i64 (e22.v3 w)]) (r8.h0 w), .ret (AV.tup [AV.snil, AV.int IntKind.i64 (e25.v w)]) (r8.h1 w), .b true, .b true, .b true, .b true, .b true, .b true, .b true, .b true, .b true, .b true, .b true, .b true, .b false, .b false, .b false, .b false, .b false, .b false, .b false, .b false, .b false, .b false, .b false, .b false, .b false, .b false, .b false, .b false] (by simp) (by simp) (kmp (by kernel_rfl) (And.intro (r9 (r8.h0 w)) (And.intro (rfl : false = false) (And.intro (r20 (w) o0 (r8.h0 w)) (And.intro (show (bnot (r20.v w)) = false by rw [h1]; try rfl) (And.intro (r21 (w) o1 o2 o3 (r8.h0 w)) (And.intro (r24 (w) o1 o2 o3 (r8.h0 w)) (And.intro (show (bnot (r24.v w == r21.v w)) = false by rw [h2]; try rfl) (And.intro h3 (And.intro (e26 (w) o1 o2 o3 o4 (r8.h0 w)) (And.intro (e29 (w) o1 o2 o3 o4 (0) (r8.h0 w)) (And.intro (e22 (w) o1 o2 o3 o4 (r8.h0 w)) (And.intro (e25 (w) o1 o2 o3 o4 (ByteArray.mk #[97]) (r8.h1 w)) (And.intro h4 (And.intro h4 (And.intro h4 (And.intro h4 (And.intro h5 (And.intro h5 (And.intro h5 (And.intro h5 (And.intro h6 (And.intro h6 (And.intro h6 (And.intro h6 (And.intro h7 (And.intro h7 (And.intro h7 (And.intro h7 (And.intro (rfl : false = false) (And.intro (rfl : false = false) (And.intro (rfl : false = false) (And.intro (rfl : false = false) (And.intro (rfl : false = false) (And.intro (rfl : false = false) (And.intro (rfl : false = false) (And.intro (rfl : false = false) (And.intro (rfl : false = false) (And.intro (rfl : false = false) (And.intro (rfl : false = false) (And.intro (rfl : false = false) (And.intro (show (AV.bool false) = ((AV.bool (r8.v w))) by simp only [r8.v, h1, h2, h3, h4, h5, h6, h7, cond_true, cond_false]) trivial)))))))))))))))))))))))))))))))))))))))))) h
            | false =>
              have h6p := ne_of_beq_false h6
              exact Ret.of_run1 mix [(AV.bool (r8.v w))] Try.func8 rfl [.ret (AV.bool r9.v) (r8.h0 w), .b false, .ret (AV.bool (r20.v w)) (r8.h0 w), .b false, .ret (AV.int IntKind.i64 (r21.v w)) (r8.h0 w), .ret (AV.int IntKind.i64 (r24.v w)) (r8.h0 w), .b false, .b false, .ret (AV.tup [AV.snil, AV.int IntKind.i64 (e26.v w)]) (r8.h0 w), .ret (AV.tup [AV.snil, AV.int IntKind.i64 (e29.v w)]) (r8.h0 w), .ret (AV.tup [AV.agg [AV.int IntKind.i64 0, AV.int IntKind.i64 0, AV.int IntKind.i64 0], AV.int IntKind.i64 (e22.v3 w)]) (r8.h0 w), .ret (AV.tup [AV.snil, AV.int IntKind.i64 (e25.v w)]) (r8.h1 w), .b true, .b true, .b true, .b true, .b true, .b true, .b true, .b true, .b false, .b false, .b false, .b false, .b false, .b false, .b false, .b false, .b false, .b false, .b false, .b false, .b false, .b false, .b false, .b false, .b false, .b false, .b false, .b false] (by simp) (by simp) (kmp (by kernel_rfl) (And.intro (r9 (r8.h0 w)) (And.intro (rfl : false = false) (And.intro (r20 (w) o0 (r8.h0 w)) (And.intro (show (bnot (r20.v w)) = false by rw [h1]; try rfl) (And.intro (r21 (w) o1 o2 o3 (r8.h0 w)) (And.intro (r24 (w) o1 o2 o3 (r8.h0 w)) (And.intro (show (bnot (r24.v w == r21.v w)) = false by rw [h2]; try rfl) (And.intro h3 (And.intro (e26 (w) o1 o2 o3 o4 (r8.h0 w)) (And.intro (e29 (w) o1 o2 o3 o4 (0) (r8.h0 w)) (And.intro (e22 (w) o1 o2 o3 o4 (r8.h0 w)) (And.intro (e25 (w) o1 o2 o3 o4 (ByteArray.mk #[97]) (r8.h1 w)) (And.intro h4 (And.intro h4 (And.intro h4 (And.intro h4 (And.intro h5 (And.intro h5 (And.intro h5 (And.intro h5 (And.intro h6 (And.intro h6 (And.intro h6 (And.intro h6 (And.intro (rfl : false = false) (And.intro (rfl : false = false) (And.intro (rfl : false = false) (And.intro (rfl : false = false) (And.intro (rfl : false = false) (And.intro (rfl : false = false) (And.intro (rfl : false = false) (And.intro (rfl : false = false) (And.intro (rfl : false = false) (And.intro (rfl : false = false) (And.intro (rfl : false = false) (And.intro (rfl : false = false) (And.intro (rfl : false = false) (And.intro (rfl : false = false) (And.intro (rfl : false = false) (And.intro (rfl : false = false) (And.intro (show (AV.bool false) = ((AV.bool (r8.v w))) by simp only [r8.v, h1, h2, h3, h4, h5, h6, cond_true, cond_false]) trivial)))))))))))))))))))))))))))))))))))))))))) h
          | false =>
            have h5p := ne_of_beq_false h5
            exact Ret.of_run1 mix [(AV.bool (r8.v w))] Try.func8 rfl [.ret (AV.bool r9.v) (r8.h0 w), .b false, .ret (AV.bool (r20.v w)) (r8.h0 w), .b false, .ret (AV.int IntKind.i64 (r21.v w)) (r8.h0 w), .ret (AV.int IntKind.i64 (r24.v w)) (r8.h0 w), .b false, .b false, .ret (AV.tup [AV.snil, AV.int IntKind.i64 (e26.v w)]) (r8.h0 w), .ret (AV.tup [AV.snil, AV.int IntKind.i64 (e29.v w)]) (r8.h0 w), .ret (AV.tup [AV.agg [AV.int IntKind.i64 0, AV.int IntKind.i64 0, AV.int IntKind.i64 0], AV.int IntKind.i64 (e22.v3 w)]) (r8.h0 w), .ret (AV.tup [AV.snil, AV.int IntKind.i64 (e25.v w)]) (r8.h1 w), .b true, .b true, .b true, .b true, .b false, .b false, .b false, .b false, .b false, .b false, .b false, .b false, .b false, .b false, .b false, .b false, .b false, .b false, .b false, .b false, .b false, .b false, .b false, .b false, .b false, .b false, .b false, .b false] (by simp) (by simp) (kmp (by kernel_rfl) (And.intro (r9 (r8.h0 w)) (And.intro (rfl : false = false) (And.intro (r20 (w) o0 (r8.h0 w)) (And.intro (show (bnot (r20.v w)) = false by rw [h1]; try rfl) (And.intro (r21 (w) o1 o2 o3 (r8.h0 w)) (And.intro (r24 (w) o1 o2 o3 (r8.h0 w)) (And.intro (show (bnot (r24.v w == r21.v w)) = false by rw [h2]; try rfl) (And.intro h3 (And.intro (e26 (w) o1 o2 o3 o4 (r8.h0 w)) (And.intro (e29 (w) o1 o2 o3 o4 (0) (r8.h0 w)) (And.intro (e22 (w) o1 o2 o3 o4 (r8.h0 w)) (And.intro (e25 (w) o1 o2 o3 o4 (ByteArray.mk #[97]) (r8.h1 w)) (And.intro h4 (And.intro h4 (And.intro h4 (And.intro h4 (And.intro h5 (And.intro h5 (And.intro h5 (And.intro h5 (And.intro (rfl : false = false) (And.intro (rfl : false = false) (And.intro (rfl : false = false) (And.intro (rfl : false = false) (And.intro (rfl : false = false) (And.intro (rfl : false = false) (And.intro (rfl : false = false) (And.intro (rfl : false = false) (And.intro (rfl : false = false) (And.intro (rfl : false = false) (And.intro (rfl : false = false) (And.intro (rfl : false = false) (And.intro (rfl : false = false) (And.intro (rfl : false = false) (And.intro (rfl : false = false) (And.intro (rfl : false = false) (And.intro (rfl : false = false) (And.intro (rfl : false = false) (And.intro (rfl : false = false) (And.intro (rfl : false = false) (And.intro (show (AV.bool false) = ((AV.bool (r8.v w))) by simp only [r8.v, h1, h2, h3, h4, h5, cond_true, cond_false]) trivial)))))))))))))))))))))))))))))))))))))))))) h
        | false =>
          have h4p := ne_of_beq_false h4
          exact Ret.of_run1 mix [(AV.bool (r8.v w))] Try.func8 rfl [.ret (AV.bool r9.v) (r8.h0 w), .b false, .ret (AV.bool (r20.v w)) (r8.h0 w), .b false, .ret (AV.int IntKind.i64 (r21.v w)) (r8.h0 w), .ret (AV.int IntKind.i64 (r24.v w)) (r8.h0 w), .b false, .b false, .ret (AV.tup [AV.snil, AV.int IntKind.i64 (e26.v w)]) (r8.h0 w), .ret (AV.tup [AV.snil, AV.int IntKind.i64 (e29.v w)]) (r8.h0 w), .ret (AV.tup [AV.agg [AV.int IntKind.i64 0, AV.int IntKind.i64 0, AV.int IntKind.i64 0], AV.int IntKind.i64 (e22.v3 w)]) (r8.h0 w), .ret (AV.tup [AV.snil, AV.int IntKind.i64 (e25.v w)]) (r8.h1 w), .b false, .b false, .b false, .b false, .b false, .b false, .b false, .b false, .b false, .b false, .b false, .b false, .b false, .b false, .b false, .b false, .b false, .b false, .b false, .b false, .b false, .b false, .b false, .b false, .b false, .b false, .b false, .b false] (by simp) (by simp) (kmp (by kernel_rfl) (And.intro (r9 (r8.h0 w)) (And.intro (rfl : false = false) (And.intro (r20 (w) o0 (r8.h0 w)) (And.intro (show (bnot (r20.v w)) = false by rw [h1]; try rfl) (And.intro (r21 (w) o1 o2 o3 (r8.h0 w)) (And.intro (r24 (w) o1 o2 o3 (r8.h0 w)) (And.intro (show (bnot (r24.v w == r21.v w)) = false by rw [h2]; try rfl) (And.intro h3 (And.intro (e26 (w) o1 o2 o3 o4 (r8.h0 w)) (And.intro (e29 (w) o1 o2 o3 o4 (0) (r8.h0 w)) (And.intro (e22 (w) o1 o2 o3 o4 (r8.h0 w)) (And.intro (e25 (w) o1 o2 o3 o4 (ByteArray.mk #[97]) (r8.h1 w)) (And.intro h4 (And.intro h4 (And.intro h4 (And.intro h4 (And.intro (rfl : false = false) (And.intro (rfl : false = false) (And.intro (rfl : false = false) (And.intro (rfl : false = false) (And.intro (rfl : false = false) (And.intro (rfl : false = false) (And.intro (rfl : false = false) (And.intro (rfl : false = false) (And.intro (rfl : false = false) (And.intro (rfl : false = false) (And.intro (rfl : false = false) (And.intro (rfl : false = false) (And.intro (rfl : false = false) (And.intro (rfl : false = false) (And.intro (rfl : false = false) (And.intro (rfl : false = false) (And.intro (rfl : false = false) (And.intro (rfl : false = false) (And.intro (rfl : false = false) (And.intro (rfl : false = false) (And.intro (rfl : false = false) (And.intro (rfl : false = false) (And.intro (rfl : false = false) (And.intro (rfl : false = false) (And.intro (show (AV.bool false) = ((AV.bool (r8.v w))) by simp only [r8.v, h1, h2, h3, h4, cond_true, cond_false]) trivial)))))))))))))))))))))))))))))))))))))))))) h
    | false =>
      have h2p := ne_of_beq_false h2
      exact Ret.of_run1 mix [(AV.bool (r8.v w))] Try.func8 rfl [.ret (AV.bool r9.v) (r8.h0 w), .b false, .ret (AV.bool (r20.v w)) (r8.h0 w), .b false, .ret (AV.int IntKind.i64 (r21.v w)) (r8.h0 w), .ret (AV.int IntKind.i64 (r24.v w)) (r8.h0 w), .b true] (by simp) (by simp) (kmp (by kernel_rfl) (And.intro (r9 (r8.h0 w)) (And.intro (rfl : false = false) (And.intro (r20 (w) o0 (r8.h0 w)) (And.intro (show (bnot (r20.v w)) = false by rw [h1]; try rfl) (And.intro (r21 (w) o1 o2 o3 (r8.h0 w)) (And.intro (r24 (w) o1 o2 o3 (r8.h0 w)) (And.intro (show (bnot (r24.v w == r21.v w)) = true by rw [h2]; try rfl) (And.intro (show (AV.bool false) = ((AV.bool (r8.v w))) by simp only [r8.v, h1, h2, cond_true, cond_false]) trivial))))))))) h
  | false =>
    exact Ret.of_run1 mix [(AV.bool (r8.v w))] Try.func8 rfl [.ret (AV.bool r9.v) (r8.h0 w), .b false, .ret (AV.bool (r20.v w)) (r8.h0 w), .b true] (by simp) (by simp) (kmp (by kernel_rfl) (And.intro (r9 (r8.h0 w)) (And.intro (rfl : false = false) (And.intro (r20 (w) o0 (r8.h0 w)) (And.intro (show (bnot (r20.v w)) = true by rw [h1]; try rfl) (And.intro (show (AV.bool true) = ((AV.bool (r8.v w))) by simp only [r8.v, h1, cond_true, cond_false]) trivial)))))) h
end Go.Proofs.Ytjdbmmilcihpoaa
open Go
namespace Go.Proofs.Ytjdbmmilcihpoaa
set_option maxHeartbeats 0
set_option maxRecDepth 100000
set_option linter.unusedVariables false
set_option linter.unusedSimpArgs false
theorem r8_true {w : WD} (hnm : w.nm.size ≤ 9223372036854775807) (hg : ∀ i, (w.g i).nm.size ≤ 9223372036854775807) : r8.v w = true := by
  unfold r8.v
  cases h : r20.v w with
  | false => rfl
  | true =>
    have e := check_eq (small_n h) hnm hg
    unfold e26.v e29.v e22.v3 e25.v
    rw [e]
    have : (r24.v w == r24.v w) = true := by simp
    rw [this]
    cases r24.v w == 0 <;> rfl
end Go.Proofs.Ytjdbmmilcihpoaa
open Go
namespace Go.Proofs.Ytjdbmmilcihpoaa
open Go.ChangeShapes Go.WideShapes Go.ChangeAt Go.RowKit
set_option maxRecDepth 100000 in
theorem law8 (xs : List AV) (h : FitsA Try.prog 8 [36] xs) : Ret Try.prog 8 xs [] (.bool true) [] := by
  obtain ⟨x0, rfl, h0⟩ := fitsA1 h
  obtain ⟨w, hw, hnm, hg, i0⟩ := arg_wall h0
  have := r8 w hw hnm hg []
  rw [r8_true hnm hg] at this
  exact this.imp (.cons i0 .nil)
set_option maxRecDepth 100000 in
theorem wallChecks_lifted (os : Os) (started : os.Started) (H : Type) (enc : TypeId × Value → H) :
    ReturnsInHanded {} Try.checked os 8 .any (Rows.wallChecksSpec.pre6 enc Try.prog Try.f8 Rows.wallChecksRow.domain false) (Rows.wallChecksSpec.post enc Try.prog Try.f8 false true false false) :=
  lifted (C := Try.checked) 8 own started (by kernel_rfl) Try.func8
    (ChangeSpec.witness6 (enc := enc) (C := Try.checked) false ⟨#[], #[.agg #[.string ByteArray.empty, .slice none 0 0, .int .i64 0, .int .i64 0, .int .i64 0, .int .i64 0]], []⟩ 8 (by kernel_rfl) (by kernel_rfl) (by kernel_rfl) (by kernel_rfl))
    rfl (fun ds hd => by
      match ds, hd with
      | [_], _ => rfl) (rt := 4) (by kernel_rfl) (by kernel_rfl) laidOut (by kernel_rfl) law8
theorem wallChecks_holds : Rows.WallChecksSaid :=
  OpenClaim.holds_of_wide 8 Try.f8 rfl rfl rfl rfl rfl rfl rfl ⟨rfl, rfl, rfl, rfl, rfl⟩ rfl rfl rfl rfl rfl (by kernel_rfl) Try.func8 (by kernel_rfl)
    (of_decide_eq_true (by kernel_rfl)) (by unfold Func.isWrapper; first | (rw [if_pos (by decide +kernel)]; kernel_rfl) | (rw [if_neg (by decide +kernel)]; exact ⟨rfl, rfl⟩))
    (fun os started H enc _ => wallChecks_lifted os started H enc)
end Go.Proofs.Ytjdbmmilcihpoaa
