/- WallLayouts: whatever the input, the law hands back true. Conditions: none. -/
import Derived.Test.YtjdbmmilcihpoaaK32

/- the wall seat's contracts: Reach. -/
open Go
namespace Go.Proofs.Ytjdbmmilcihpoaa
set_option linter.unusedSimpArgs false
set_option linter.unusedVariables false
set_option maxHeartbeats 0
set_option maxRecDepth 100000
inductive L12ab.O where
  | e0 (a0 : List Bool)
noncomputable def L12ab.T (L : Int) (j : Int) (l : Int) (n : Nat) (f : Nat → Int) (m : Nat) (g : Nat → Int) (av14 : Nat) (al14 : List Int) (a35 : Int) (ar0 : List Bool) (b48 : Int) (br0 : List Bool) : List AV := mkT 84 [(0, AV.int IntKind.i64 L), (1, AV.int IntKind.i64 j), (2, AV.int IntKind.i64 l), (3, AV.sl 1 n fun (i : Nat) => AV.int IntKind.i64 (f i)), (4, AV.sl 1 m fun (i : Nat) => AV.int IntKind.i64 (g i)), (13, AV.ms 0 L.toNat 1 0 L.toNat), (14, AV.ms 1 (av14 + 1) 1 0 ((Col.ints IntKind.i64 al14).join AppMode.one 1 fun (a : Nat) => (Col.ofList [AV.int IntKind.i64 a35]).get a).len), (15, AV.int IntKind.i64 a35), (33, AV.ms 0 L.toNat 1 0 L.toNat), (34, AV.int IntKind.i64 (↑L.toNat : Int)), (35, AV.int IntKind.i64 a35), (46, AV.sl 1 n fun (i : Nat) => AV.int IntKind.i64 (f i)), (47, AV.int IntKind.i64 (↑n : Int)), (48, AV.int IntKind.i64 b48)]
noncomputable def L12ab.H (L : Int) (j : Int) (l : Int) (n : Nat) (f : Nat → Int) (m : Nat) (g : Nat → Int) (av14 : Nat) (al14 : List Int) (a35 : Int) (ar0 : List Bool) (b48 : Int) (br0 : List Bool) : AHeap := [AObj.row 1 L.toNat (Col.bools br0), AObj.row 1 (av14 + 1) (Col.ints IntKind.i64 (al14 ++ [a35]))]
def L12ab.inv (L : Int) (j : Int) (l : Int) (n : Nat) (f : Nat → Int) (m : Nat) (g : Nat → Int) (av14 : Nat) (al14 : List Int) (a35 : Int) (ar0 : List Bool) (b48 : Int) (br0 : List Bool) : Prop := 0 ≤ b48 ∧ (b48 ≤ (↑n : Int) ∨ b48 ≤ 0) ∧ br0.length = ar0.length
noncomputable def L12ab.mu (L : Int) (j : Int) (l : Int) (n : Nat) (f : Nat → Int) (m : Nat) (g : Nat → Int) (av14 : Nat) (al14 : List Int) (a35 : Int) (ar0 : List Bool) (b48 : Int) (br0 : List Bool) : Nat := ((↑n : Int) - b48).toNat
noncomputable def L12ab.E : L12ab.O → Exit
  | .e0 a0 => Exit.exit 2
noncomputable def L12ab.X (L : Int) (j : Int) (l : Int) (n : Nat) (f : Nat → Int) (m : Nat) (g : Nat → Int) (av14 : Nat) (al14 : List Int) (a35 : Int) (ar0 : List Bool) : L12ab.O → List AV
  | .e0 a0 => mkT 84 [(0, (AV.int IntKind.i64 L)), (1, (AV.int IntKind.i64 j)), (2, (AV.int IntKind.i64 l)), (3, (AV.sl 1 n fun (i : Nat) => AV.int IntKind.i64 (f i))), (4, (AV.sl 1 m fun (i : Nat) => AV.int IntKind.i64 (g i))), (13, (AV.ms 0 L.toNat 1 0 L.toNat)), (14, (AV.ms 1 (av14 + 1) 1 0 (al14 ++ [a35]).length)), (33, (AV.ms 0 L.toNat 1 0 L.toNat)), (34, (AV.int IntKind.i64 (↑L.toNat : Int))), (35, (AV.int IntKind.i64 a35))]
noncomputable def L12ab.XH (L : Int) (j : Int) (l : Int) (n : Nat) (f : Nat → Int) (m : Nat) (g : Nat → Int) (av14 : Nat) (al14 : List Int) (a35 : Int) (ar0 : List Bool) : L12ab.O → AHeap
  | .e0 a0 => ((AObj.row 1 (L.toNat) (Col.bools a0)) :: ([AObj.row 1 (av14 + 1) (Col.ints IntKind.i64 (al14 ++ [a35]))]))
noncomputable def L12ab.N (L : Int) (j : Int) (l : Int) (n : Nat) (f : Nat → Int) (m : Nat) (g : Nat → Int) (a35 : Int) : Nat → Int → (List Bool) → L12ab.O
  | 0, _, br0 => .e0 br0
  | k_ + 1, b48, br0 => (bif decide (b48 < (↑n : Int)) then (bif decide (IntKind.i64.wrap (IntKind.i64.wrap (a35 + f b48.toNat) + j) < L) then (bif br0.getD (0 + (IntKind.i64.wrap (IntKind.i64.wrap (a35 + f b48.toNat) + j)).toNat) false then (L12ab.N L j l n f m g a35 k_ (IntKind.i64.wrap (b48 + 1)) (br0)) else (bif r34.v (IntKind.i64.wrap (a35 + f b48.toNat)) j l m g then (L12ab.N L j l n f m g a35 k_ (IntKind.i64.wrap (b48 + 1)) (br0.set (0 + (IntKind.i64.wrap (IntKind.i64.wrap (a35 + f b48.toNat) + j)).toNat) true)) else (L12ab.N L j l n f m g a35 k_ (IntKind.i64.wrap (b48 + 1)) (br0)))) else (L12ab.N L j l n f m g a35 k_ (IntKind.i64.wrap (b48 + 1)) (br0))) else (.e0 (br0)))
noncomputable def L12ab.run (L : Int) (j : Int) (l : Int) (n : Nat) (f : Nat → Int) (m : Nat) (g : Nat → Int) (a35 : Int) (b48 : Int) (br0 : List Bool) : L12ab.O := L12ab.N L j l n f m g a35 ((((↑n : Int) - b48).toNat) + 1) b48 br0
def L12ab.Next (L : Int) (j : Int) (l : Int) (n : Nat) (f : Nat → Int) (m : Nat) (g : Nat → Int) (av14 : Nat) (al14 : List Int) (a35 : Int) (ar0 : List Bool) (k_ : Nat) (z_ : Int × (List Bool)) (T_ : List AV) (h_ : AHeap) : Prop := LNextP (fun (z_ : Int × (List Bool)) => L12ab.T L j l n f m g av14 al14 a35 ar0 z_.1 z_.2) (fun (z_ : Int × (List Bool)) => L12ab.H L j l n f m g av14 al14 a35 ar0 z_.1 z_.2) (fun (z_ : Int × (List Bool)) => L12ab.inv L j l n f m g av14 al14 a35 ar0 z_.1 z_.2) (fun (z_ : Int × (List Bool)) => L12ab.mu L j l n f m g av14 al14 a35 ar0 z_.1 z_.2) (fun (k_ : Nat) (z_ : Int × (List Bool)) => L12ab.N L j l n f m g a35 k_ z_.1 z_.2) k_ z_ T_ h_
def L12ab.End (L : Int) (j : Int) (l : Int) (n : Nat) (f : Nat → Int) (m : Nat) (g : Nat → Int) (av14 : Nat) (al14 : List Int) (a35 : Int) (ar0 : List Bool) (k_ : Nat) (z_ : Int × (List Bool)) (e_ : Exit) (T_ : List AV) (h_ : AHeap) : Prop := LEndP (fun (z_ : Int × (List Bool)) => L12ab.H L j l n f m g av14 al14 a35 ar0 z_.1 z_.2) (fun (k_ : Nat) (z_ : Int × (List Bool)) => L12ab.N L j l n f m g a35 k_ z_.1 z_.2) L12ab.E (L12ab.X L j l n f m g av14 al14 a35 ar0) (L12ab.XH L j l n f m g av14 al14 a35 ar0) k_ z_ e_ T_ h_
theorem L12ab.nx (L : Int) (j : Int) (l : Int) (n : Nat) (f : Nat → Int) (m : Nat) (g : Nat → Int) (av14 : Nat) (al14 : List Int) (a35 : Int) (ar0 : List Bool) {k_ : Nat} {z_ : Int × (List Bool)} {h_ : AHeap} (s_ : Int × (List Bool)) (h1 : L12ab.inv L j l n f m g av14 al14 a35 ar0 s_.1 s_.2) (h2 : L12ab.mu L j l n f m g av14 al14 a35 ar0 s_.1 s_.2 < L12ab.mu L j l n f m g av14 al14 a35 ar0 z_.1 z_.2) (h3 : L12ab.N L j l n f m g a35 k_ s_.1 s_.2 = L12ab.N L j l n f m g a35 (k_ + 1) z_.1 z_.2) (h4 : PopOk (L12ab.H L j l n f m g av14 al14 a35 ar0 z_.1 z_.2) h_ (L12ab.T L j l n f m g av14 al14 a35 ar0 s_.1 s_.2) (L12ab.H L j l n f m g av14 al14 a35 ar0 s_.1 s_.2)) : LNextP (fun (z_ : Int × (List Bool)) => L12ab.T L j l n f m g av14 al14 a35 ar0 z_.1 z_.2) (fun (z_ : Int × (List Bool)) => L12ab.H L j l n f m g av14 al14 a35 ar0 z_.1 z_.2) (fun (z_ : Int × (List Bool)) => L12ab.inv L j l n f m g av14 al14 a35 ar0 z_.1 z_.2) (fun (z_ : Int × (List Bool)) => L12ab.mu L j l n f m g av14 al14 a35 ar0 z_.1 z_.2) (fun (k_ : Nat) (z_ : Int × (List Bool)) => L12ab.N L j l n f m g a35 k_ z_.1 z_.2) k_ z_ (L12ab.T L j l n f m g av14 al14 a35 ar0 s_.1 s_.2) h_ := LNextP.mk (Tm := (fun (z_ : Int × (List Bool)) => L12ab.T L j l n f m g av14 al14 a35 ar0 z_.1 z_.2)) (Hp := (fun (z_ : Int × (List Bool)) => L12ab.H L j l n f m g av14 al14 a35 ar0 z_.1 z_.2)) (inv := (fun (z_ : Int × (List Bool)) => L12ab.inv L j l n f m g av14 al14 a35 ar0 z_.1 z_.2)) (mu := (fun (z_ : Int × (List Bool)) => L12ab.mu L j l n f m g av14 al14 a35 ar0 z_.1 z_.2)) (l := (fun (k_ : Nat) (z_ : Int × (List Bool)) => L12ab.N L j l n f m g a35 k_ z_.1 z_.2)) s_ h1 h2 h3 h4
theorem L12ab.en (L : Int) (j : Int) (l : Int) (n : Nat) (f : Nat → Int) (m : Nat) (g : Nat → Int) (av14 : Nat) (al14 : List Int) (a35 : Int) (ar0 : List Bool) {k_ : Nat} {z_ : Int × (List Bool)} {h_ : AHeap} (o_ : L12ab.O) (h3 : L12ab.N L j l n f m g a35 (k_ + 1) z_.1 z_.2 = o_) (h4 : PopOk (L12ab.H L j l n f m g av14 al14 a35 ar0 z_.1 z_.2) h_ (L12ab.X L j l n f m g av14 al14 a35 ar0 o_) (L12ab.XH L j l n f m g av14 al14 a35 ar0 o_)) : LEndP (fun (z_ : Int × (List Bool)) => L12ab.H L j l n f m g av14 al14 a35 ar0 z_.1 z_.2) (fun (k_ : Nat) (z_ : Int × (List Bool)) => L12ab.N L j l n f m g a35 k_ z_.1 z_.2) L12ab.E (L12ab.X L j l n f m g av14 al14 a35 ar0) (L12ab.XH L j l n f m g av14 al14 a35 ar0) k_ z_ (L12ab.E o_) (L12ab.X L j l n f m g av14 al14 a35 ar0 o_) h_ := LEndP.mk (Hp := (fun (z_ : Int × (List Bool)) => L12ab.H L j l n f m g av14 al14 a35 ar0 z_.1 z_.2)) (l := (fun (k_ : Nat) (z_ : Int × (List Bool)) => L12ab.N L j l n f m g a35 k_ z_.1 z_.2)) (oE := L12ab.E) (oT := L12ab.X L j l n f m g av14 al14 a35 ar0) (oH := L12ab.XH L j l n f m g av14 al14 a35 ar0) o_ h3 h4
noncomputable abbrev L12ab.h0 (L : Int) (j : Int) (l : Int) (n : Nat) (f : Nat → Int) (m : Nat) (g : Nat → Int) (av14 : Nat) (al14 : List Int) (a35 : Int) (ar0 : List Bool) (b48 : Int) (br0 : List Bool) : AHeap := ([AObj.row 1 L.toNat (Col.bools br0), AObj.row 1 (av14 + 1) (Col.ints IntKind.i64 (al14 ++ [a35]))])
theorem L12ab.spec (L : Int) (j : Int) (l : Int) (n : Nat) (f : Nat → Int) (hn : n ≤ 9223372036854775807) (m : Nat) (g : Nat → Int) (hm : m ≤ 9223372036854775807) (k0_1 : (r32.v L j l n f m g == 0) = true) (p0_1 : r32.v L j l n f m g = 0) (av14 : Nat) (al14 : List Int) (a35 : Int) (ar0 : List Bool) (i12a_0 : 0 ≤ a35) (i12a_1 : a35 ≤ (↑L.toNat : Int) ∨ a35 ≤ 0) (i12a_2 : (↑al14.length : Int) ≤ 1000000 * (a35 - 0)) (i12a_3 : ar0.length = ((List.replicate L.toNat false).set 0 true).length) (k1_1 : decide (a35 < (↑L.toNat : Int)) = true) (p1_1 : a35 < (↑L.toNat : Int)) (k1_2 : ar0.getD (0 + a35.toNat) false = true) (k_ : Nat) (z_ : Int × (List Bool)) (hi_ : L12ab.inv L j l n f m g av14 al14 a35 ar0 z_.1 z_.2) (hm_ : L12ab.mu L j l n f m g av14 al14 a35 ar0 z_.1 z_.2 < k_) : LoopTo Try.prog (loopN Try.f12 1) (L12ab.T L j l n f m g av14 al14 a35 ar0 z_.1 z_.2) (L12ab.H L j l n f m g av14 al14 a35 ar0 z_.1 z_.2) (L12ab.E (L12ab.N L j l n f m g a35 k_ z_.1 z_.2)) (L12ab.X L j l n f m g av14 al14 a35 ar0 (L12ab.N L j l n f m g a35 k_ z_.1 z_.2)) (L12ab.XH L j l n f m g av14 al14 a35 ar0 (L12ab.N L j l n f m g a35 k_ z_.1 z_.2)) := by
  refine LoopTo.fuelP mix (fun (z_ : Int × (List Bool)) => L12ab.T L j l n f m g av14 al14 a35 ar0 z_.1 z_.2) (fun (z_ : Int × (List Bool)) => L12ab.H L j l n f m g av14 al14 a35 ar0 z_.1 z_.2) (fun (z_ : Int × (List Bool)) => L12ab.inv L j l n f m g av14 al14 a35 ar0 z_.1 z_.2) (fun (z_ : Int × (List Bool)) => L12ab.mu L j l n f m g av14 al14 a35 ar0 z_.1 z_.2) (fun (k_ : Nat) (z_ : Int × (List Bool)) => L12ab.N L j l n f m g a35 k_ z_.1 z_.2) L12ab.E (L12ab.X L j l n f m g av14 al14 a35 ar0) (L12ab.XH L j l n f m g av14 al14 a35 ar0) (others 84 [0, 1, 2, 3, 4, 13, 14, 15, 33, 34, 35, 46, 47, 48]) (others 84 [10, 11]) (others 84 [0, 1, 2, 3, 4, 13, 14, 33, 34, 35]) ?_ k_ z_ hi_ hm_
  clear hm_ hi_ z_ k_
  intro k_ z_ hinv hmu
  obtain ⟨b48, br0⟩ := z_
  have hinv : 0 ≤ b48 ∧ (b48 ≤ (↑n : Int) ∨ b48 ≤ 0) ∧ br0.length = ar0.length := hinv
  have hmu : (((↑n : Int) - b48).toNat) < k_ + 1 := hmu
  cases h1 : decide (b48 < (↑n : Int)) with
  | true =>
    have h1p := of_decide_eq_true h1
    try have := bd_ok (by first | assumption | omega) (by first | assumption | omega) (by first | assumption | omega)
    try have := bd_len (by first | assumption | omega)
    try have := bd_sz (by first | assumption | omega) (by first | assumption | omega) (by first | assumption | omega)
    have o0 : (0 : Int) ≤ b48 := by first | assumption | omega | (simp_all; done)
    have o1 : b48 < (↑n : Int) := by first | assumption | omega | (simp_all; done)
    cases h2 : decide (IntKind.i64.wrap (IntKind.i64.wrap (a35 + f b48.toNat) + j) < L) with
    | true =>
      have h2p := of_decide_eq_true h2
      try have := bd_ok (by first | assumption | omega) (by first | assumption | omega) (by first | assumption | omega)
      try have := bd_len (by first | assumption | omega)
      try have := bd_sz (by first | assumption | omega) (by first | assumption | omega) (by first | assumption | omega)
      try have := IntWalk.i64_in (a35 + f b48.toNat) (by omega)
      try have := IntWalk.i64_in (IntKind.i64.wrap (a35 + f b48.toNat) + j) (by omega)
      have o2 : (0 : Int) ≤ IntKind.i64.wrap (IntKind.i64.wrap (a35 + f b48.toNat) + j) := by first | assumption | omega | (apply wr_0 <;> first | assumption | omega) | (simp_all; done)
      have o3 : IntKind.i64.wrap (IntKind.i64.wrap (a35 + f b48.toNat) + j) < (↑L.toNat : Int) := by first | assumption | omega | (simp_all; done)
      have o4 : (0 : Nat) + (IntKind.i64.wrap (IntKind.i64.wrap (a35 + f b48.toNat) + j)).toNat < (Col.bools br0).len := by first | assumption | omega | (simp only [List.length_append, List.length_cons, List.length_nil, List.length_map]; omega) | rfl | (exact Nat.le_refl _) | (simp [Col.len]; done) | (simp only [Col.len, zero_bool, zero_int, List.length_replicate, List.length_set] at *; omega) | (simp_all; done)
      cases h3 : br0.getD (0 + (IntKind.i64.wrap (IntKind.i64.wrap (a35 + f b48.toNat) + j)).toNat) false with
      | true =>
        try have := bd_ok (by first | assumption | omega) (by first | assumption | omega) (by first | assumption | omega)
        try have := bd_len (by first | assumption | omega)
        try have := bd_sz (by first | assumption | omega) (by first | assumption | omega) (by first | assumption | omega)
        try have := IntWalk.i64_in (b48 + 1) (by omega)
        have o5 : (0 : Int) ≤ IntKind.i64.wrap (b48 + (1 : Int)) := by first | assumption | omega | (simp_all; done)
        have o6 : IntKind.i64.wrap (b48 + (1 : Int)) ≤ (↑n : Int) ∨ IntKind.i64.wrap (b48 + (1 : Int)) ≤ (0 : Int) := by first | assumption | omega | (simp_all; done)
        have o7 : br0.length = ar0.length := by first | assumption | omega | (simp only [List.length_append, List.length_cons, List.length_nil, List.length_map]; omega) | (simp_all; done)
        have o8 : ((↑n : Int) - IntKind.i64.wrap (b48 + (1 : Int))).toNat < ((↑n : Int) - b48).toNat := by first | assumption | omega | (simp_all; done)
        exact ⟨[.b true, .b true, .b true, .b true, .b true, .b true, .b true, .b true, .b true, .b false, .b false, .b false, .b false, .b false, .b false, .b false], kmp (by kernel_rfl) (And.intro h1 (And.intro (And.intro o0 o1) (And.intro h2 (And.intro h2 (And.intro h2 (And.intro h2 (And.intro h2 (And.intro (And.intro o2 o3) (And.intro h2 (And.intro (And.intro (rfl : L.toNat = L.toNat) (And.intro (show (1 : Nat) = (1 : Nat) by first | decide | exact Int.NonNeg.mk _) o4)) (And.intro h2 (And.intro h2 (And.intro (show (bnot (br0.getD (0 + (IntKind.i64.wrap (IntKind.i64.wrap (a35 + f b48.toNat) + j)).toNat) false)) = false by rw [h3]; try rfl) (And.intro (show (bnot (br0.getD (0 + (IntKind.i64.wrap (IntKind.i64.wrap (a35 + f b48.toNat) + j)).toNat) false)) = false by rw [h3]; try rfl) (And.intro (show (bnot (br0.getD (0 + (IntKind.i64.wrap (IntKind.i64.wrap (a35 + f b48.toNat) + j)).toNat) false)) = false by rw [h3]; try rfl) (And.intro (show (bnot (br0.getD (0 + (IntKind.i64.wrap (IntKind.i64.wrap (a35 + f b48.toNat) + j)).toNat) false)) = false by rw [h3]; try rfl) (And.intro (show (bnot (br0.getD (0 + (IntKind.i64.wrap (IntKind.i64.wrap (a35 + f b48.toNat) + j)).toNat) false)) = false by rw [h3]; try rfl) (And.intro (show (bnot (br0.getD (0 + (IntKind.i64.wrap (IntKind.i64.wrap (a35 + f b48.toNat) + j)).toNat) false)) = false by rw [h3]; try rfl) (And.intro (rfl : false = false) (L12ab.nx L j l n f m g av14 al14 a35 ar0 (k_ := k_) (z_ := (b48, br0)) ((IntKind.i64.wrap (b48 + 1), br0)) (And.intro o5 (And.intro o6 o7)) o8 (by first | (simp only [L12ab.N, h1, h2, h3, cond_true, cond_false]; done) | (try unfold L12ab.N; try simp only [h1, cond_true, cond_false]; try simp only [h2, cond_true, cond_false]; try simp only [h3, cond_true, cond_false]; try rfl; done)) PopOk.same))))))))))))))))))))⟩
      | false =>
        try have := bd_ok (by first | assumption | omega) (by first | assumption | omega) (by first | assumption | omega)
        try have := bd_len (by first | assumption | omega)
        try have := bd_sz (by first | assumption | omega) (by first | assumption | omega) (by first | assumption | omega)
        have o9 : m ≤ (9223372036854775807 : Nat) := by first | assumption | omega | (simp_all; done)
        cases h4 : r34.v (IntKind.i64.wrap (a35 + f b48.toNat)) j l m g with
        | true =>
          try have := bd_ok (by first | assumption | omega) (by first | assumption | omega) (by first | assumption | omega)
          try have := bd_len (by first | assumption | omega)
          try have := bd_sz (by first | assumption | omega) (by first | assumption | omega) (by first | assumption | omega)
          try have := IntWalk.i64_in (b48 + 1) (by omega)
          have o5 : (0 : Int) ≤ IntKind.i64.wrap (b48 + (1 : Int)) := by first | assumption | omega | (simp_all; done)
          have o6 : IntKind.i64.wrap (b48 + (1 : Int)) ≤ (↑n : Int) ∨ IntKind.i64.wrap (b48 + (1 : Int)) ≤ (0 : Int) := by first | assumption | omega | (simp_all; done)
          try have := IntWalk.i64_in (a35 + f b48.toNat) (by omega)
          try have := IntWalk.i64_in (IntKind.i64.wrap (a35 + f b48.toNat) + j) (by omega)
          have o10 : (br0.set ((0 : Nat) + (IntKind.i64.wrap (IntKind.i64.wrap (a35 + f b48.toNat) + j)).toNat) true).length = ar0.length := by first | assumption | omega | (simp only [List.length_append, List.length_cons, List.length_nil, List.length_map]; omega) | (simp_all; done)
          have o8 : ((↑n : Int) - IntKind.i64.wrap (b48 + (1 : Int))).toNat < ((↑n : Int) - b48).toNat := by first | assumption | omega | (simp_all; done)
          exact ⟨[.b true, .b true, .b true, .b true, .b true, .b true, .b true, .b true, .b true, .b true, .b true, .b true, .b true, .b true, .ret (AV.bool (r34.v (IntKind.i64.wrap (a35 + f b48.toNat)) j l m g)) (L12ab.h0 L j l n f m g av14 al14 a35 ar0 b48 br0), .b true, .b true], kmp (by kernel_rfl) (And.intro h1 (And.intro (And.intro o0 o1) (And.intro h2 (And.intro h2 (And.intro h2 (And.intro h2 (And.intro h2 (And.intro (And.intro o2 o3) (And.intro h2 (And.intro (And.intro (rfl : L.toNat = L.toNat) (And.intro (show (1 : Nat) = (1 : Nat) by first | decide | exact Int.NonNeg.mk _) o4)) (And.intro h2 (And.intro h2 (And.intro (show (bnot (br0.getD (0 + (IntKind.i64.wrap (IntKind.i64.wrap (a35 + f b48.toNat) + j)).toNat) false)) = true by rw [h3]; try rfl) (And.intro (show (bnot (br0.getD (0 + (IntKind.i64.wrap (IntKind.i64.wrap (a35 + f b48.toNat) + j)).toNat) false)) = true by rw [h3]; try rfl) (And.intro (show (bnot (br0.getD (0 + (IntKind.i64.wrap (IntKind.i64.wrap (a35 + f b48.toNat) + j)).toNat) false)) = true by rw [h3]; try rfl) (And.intro (show (bnot (br0.getD (0 + (IntKind.i64.wrap (IntKind.i64.wrap (a35 + f b48.toNat) + j)).toNat) false)) = true by rw [h3]; try rfl) (And.intro (show (bnot (br0.getD (0 + (IntKind.i64.wrap (IntKind.i64.wrap (a35 + f b48.toNat) + j)).toNat) false)) = true by rw [h3]; try rfl) (And.intro (r34 (IntKind.i64.wrap (a35 + f b48.toNat)) (j) (l) (m) (g) o9 (L12ab.h0 L j l n f m g av14 al14 a35 ar0 b48 br0)) (And.intro (show (bnot (br0.getD (0 + (IntKind.i64.wrap (IntKind.i64.wrap (a35 + f b48.toNat) + j)).toNat) false)) = true by rw [h3]; try rfl) (And.intro h4 (And.intro (And.intro o2 o3) (And.intro (And.intro (rfl : L.toNat = L.toNat) o4) (L12ab.nx L j l n f m g av14 al14 a35 ar0 (k_ := k_) (z_ := (b48, br0)) ((IntKind.i64.wrap (b48 + 1), br0.set (0 + (IntKind.i64.wrap (IntKind.i64.wrap (a35 + f b48.toNat) + j)).toNat) true)) (And.intro o5 (And.intro o6 o10)) o8 (by first | (simp only [L12ab.N, h1, h2, h3, h4, cond_true, cond_false]; done) | (try unfold L12ab.N; try simp only [h1, cond_true, cond_false]; try simp only [h2, cond_true, cond_false]; try simp only [h3, cond_true, cond_false]; try simp only [h4, cond_true, cond_false]; try rfl; done)) PopOk.same)))))))))))))))))))))))⟩
        | false =>
          try have := bd_ok (by first | assumption | omega) (by first | assumption | omega) (by first | assumption | omega)
          try have := bd_len (by first | assumption | omega)
          try have := bd_sz (by first | assumption | omega) (by first | assumption | omega) (by first | assumption | omega)
          try have := IntWalk.i64_in (b48 + 1) (by omega)
          have o5 : (0 : Int) ≤ IntKind.i64.wrap (b48 + (1 : Int)) := by first | assumption | omega | (simp_all; done)
          have o6 : IntKind.i64.wrap (b48 + (1 : Int)) ≤ (↑n : Int) ∨ IntKind.i64.wrap (b48 + (1 : Int)) ≤ (0 : Int) := by first | assumption | omega | (simp_all; done)
          have o7 : br0.length = ar0.length := by first | assumption | omega | (simp only [List.length_append, List.length_cons, List.length_nil, List.length_map]; omega) | (simp_all; done)
          have o8 : ((↑n : Int) - IntKind.i64.wrap (b48 + (1 : Int))).toNat < ((↑n : Int) - b48).toNat := by first | assumption | omega | (simp_all; done)
          exact ⟨[.b true, .b true, .b true, .b true, .b true, .b true, .b true, .b true, .b true, .b true, .b true, .b true, .b true, .b true, .ret (AV.bool (r34.v (IntKind.i64.wrap (a35 + f b48.toNat)) j l m g)) (L12ab.h0 L j l n f m g av14 al14 a35 ar0 b48 br0), .b true, .b false], kmp (by kernel_rfl) (And.intro h1 (And.intro (And.intro o0 o1) (And.intro h2 (And.intro h2 (And.intro h2 (And.intro h2 (And.intro h2 (And.intro (And.intro o2 o3) (And.intro h2 (And.intro (And.intro (rfl : L.toNat = L.toNat) (And.intro (show (1 : Nat) = (1 : Nat) by first | decide | exact Int.NonNeg.mk _) o4)) (And.intro h2 (And.intro h2 (And.intro (show (bnot (br0.getD (0 + (IntKind.i64.wrap (IntKind.i64.wrap (a35 + f b48.toNat) + j)).toNat) false)) = true by rw [h3]; try rfl) (And.intro (show (bnot (br0.getD (0 + (IntKind.i64.wrap (IntKind.i64.wrap (a35 + f b48.toNat) + j)).toNat) false)) = true by rw [h3]; try rfl) (And.intro (show (bnot (br0.getD (0 + (IntKind.i64.wrap (IntKind.i64.wrap (a35 + f b48.toNat) + j)).toNat) false)) = true by rw [h3]; try rfl) (And.intro (show (bnot (br0.getD (0 + (IntKind.i64.wrap (IntKind.i64.wrap (a35 + f b48.toNat) + j)).toNat) false)) = true by rw [h3]; try rfl) (And.intro (show (bnot (br0.getD (0 + (IntKind.i64.wrap (IntKind.i64.wrap (a35 + f b48.toNat) + j)).toNat) false)) = true by rw [h3]; try rfl) (And.intro (r34 (IntKind.i64.wrap (a35 + f b48.toNat)) (j) (l) (m) (g) o9 (L12ab.h0 L j l n f m g av14 al14 a35 ar0 b48 br0)) (And.intro (show (bnot (br0.getD (0 + (IntKind.i64.wrap (IntKind.i64.wrap (a35 + f b48.toNat) + j)).toNat) false)) = true by rw [h3]; try rfl) (And.intro h4 (L12ab.nx L j l n f m g av14 al14 a35 ar0 (k_ := k_) (z_ := (b48, br0)) ((IntKind.i64.wrap (b48 + 1), br0)) (And.intro o5 (And.intro o6 o7)) o8 (by first | (simp only [L12ab.N, h1, h2, h3, h4, cond_true, cond_false]; done) | (try unfold L12ab.N; try simp only [h1, cond_true, cond_false]; try simp only [h2, cond_true, cond_false]; try simp only [h3, cond_true, cond_false]; try simp only [h4, cond_true, cond_false]; try rfl; done)) PopOk.same)))))))))))))))))))))⟩
    | false =>
      have h2p := of_decide_eq_false h2
      try have := bd_ok (by first | assumption | omega) (by first | assumption | omega) (by first | assumption | omega)
      try have := bd_len (by first | assumption | omega)
      try have := bd_sz (by first | assumption | omega) (by first | assumption | omega) (by first | assumption | omega)
      try have := IntWalk.i64_in (b48 + 1) (by omega)
      have o5 : (0 : Int) ≤ IntKind.i64.wrap (b48 + (1 : Int)) := by first | assumption | omega | (simp_all; done)
      have o6 : IntKind.i64.wrap (b48 + (1 : Int)) ≤ (↑n : Int) ∨ IntKind.i64.wrap (b48 + (1 : Int)) ≤ (0 : Int) := by first | assumption | omega | (simp_all; done)
      have o7 : br0.length = ar0.length := by first | assumption | omega | (simp only [List.length_append, List.length_cons, List.length_nil, List.length_map]; omega) | (simp_all; done)
      have o8 : ((↑n : Int) - IntKind.i64.wrap (b48 + (1 : Int))).toNat < ((↑n : Int) - b48).toNat := by first | assumption | omega | (simp_all; done)
      exact ⟨[.b true, .b false, .b false, .b false, .b false, .b false, .b false, .b false, .b false, .b false, .b false, .b false, .b false, .b false, .b false, .b false], kmp (by kernel_rfl) (And.intro h1 (And.intro (And.intro o0 o1) (And.intro h2 (And.intro h2 (And.intro h2 (And.intro h2 (And.intro h2 (And.intro h2 (And.intro h2 (And.intro h2 (And.intro (rfl : false = false) (And.intro (rfl : false = false) (And.intro (rfl : false = false) (And.intro (rfl : false = false) (And.intro (rfl : false = false) (And.intro (rfl : false = false) (And.intro (rfl : false = false) (L12ab.nx L j l n f m g av14 al14 a35 ar0 (k_ := k_) (z_ := (b48, br0)) ((IntKind.i64.wrap (b48 + 1), br0)) (And.intro o5 (And.intro o6 o7)) o8 (by first | (simp only [L12ab.N, h1, h2, cond_true, cond_false]; done) | (try unfold L12ab.N; try simp only [h1, cond_true, cond_false]; try simp only [h2, cond_true, cond_false]; try rfl; done)) PopOk.same))))))))))))))))))⟩
  | false =>
    have h1p := of_decide_eq_false h1
    exact ⟨[.b false], kmp (by kernel_rfl) (And.intro h1 (L12ab.en L j l n f m g av14 al14 a35 ar0 (k_ := k_) (z_ := (b48, br0)) (.e0 (br0) : L12ab.O) (by first | (simp only [L12ab.N, h1, cond_true, cond_false]; done) | (try unfold L12ab.N; try simp only [h1, cond_true, cond_false]; try rfl; done)) PopOk.same))⟩
theorem L12ab.e0 (L : Int) (j : Int) (l : Int) (n : Nat) (f : Nat → Int) (hn : n ≤ 9223372036854775807) (m : Nat) (g : Nat → Int) (hm : m ≤ 9223372036854775807) (k0_1 : (r32.v L j l n f m g == 0) = true) (p0_1 : r32.v L j l n f m g = 0) (av14 : Nat) (al14 : List Int) (a35 : Int) (ar0 : List Bool) (i12a_0 : 0 ≤ a35) (i12a_1 : a35 ≤ (↑L.toNat : Int) ∨ a35 ≤ 0) (i12a_2 : (↑al14.length : Int) ≤ 1000000 * (a35 - 0)) (i12a_3 : ar0.length = ((List.replicate L.toNat false).set 0 true).length) (k1_1 : decide (a35 < (↑L.toNat : Int)) = true) (p1_1 : a35 < (↑L.toNat : Int)) (k1_2 : ar0.getD (0 + a35.toNat) false = true) (b48 : Int) (br0 : List Bool) (hinv : L12ab.inv L j l n f m g av14 al14 a35 ar0 b48 br0) (a0 : List Bool) (hN : L12ab.run L j l n f m g a35 b48 br0 = (.e0 a0 : L12ab.O)) : LoopTo Try.prog (loopN Try.f12 1) (L12ab.T L j l n f m g av14 al14 a35 ar0 b48 br0) (L12ab.H L j l n f m g av14 al14 a35 ar0 b48 br0) (Exit.exit 2) (L12ab.X L j l n f m g av14 al14 a35 ar0 (.e0 a0 : L12ab.O)) (L12ab.XH L j l n f m g av14 al14 a35 ar0 (.e0 a0 : L12ab.O)) := by
  have h_ := L12ab.spec L j l n f hn m g hm k0_1 p0_1 av14 al14 a35 ar0 i12a_0 i12a_1 i12a_2 i12a_3 k1_1 p1_1 k1_2 ((((↑n : Int) - b48).toNat) + 1) (b48, br0) hinv (Nat.lt_succ_self _)
  unfold L12ab.run at hN
  simp only [hN] at h_
  exact h_
theorem L12ab.len0_0 (L : Int) (j : Int) (l : Int) (n : Nat) (f : Nat → Int) (m : Nat) (g : Nat → Int) (a35 : Int) : ∀ (m_ : Nat) (b48 : Int) (br0 : List Bool) (a0_ : List Bool), L12ab.N L j l n f m g a35 m_ b48 br0 = (.e0 a0_ : L12ab.O) → (a0_).length ≤ (br0).length + m_ := by
  intro m_
  induction m_ with
  | zero =>
    intro b48 br0 a0_ h_
    simp only [L12ab.N] at h_
    first | (cases h_; done) | (cases h_; first | exact Nat.zero_le _ | omega)
  | succ m_ ih_ =>
    intro b48 br0 a0_ h_
    cases h1 : decide (b48 < (↑n : Int)) with
    | true =>
      have h1p := of_decide_eq_true h1
      cases h2 : decide (IntKind.i64.wrap (IntKind.i64.wrap (a35 + f b48.toNat) + j) < L) with
      | true =>
        have h2p := of_decide_eq_true h2
        cases h3 : br0.getD (0 + (IntKind.i64.wrap (IntKind.i64.wrap (a35 + f b48.toNat) + j)).toNat) false with
        | true =>
          (simp only [L12ab.N, h1, h2, h3, cond_true, cond_false] at h_; first | (have := ih_ _ _ _ h_; (try simp only [List.length_append, List.length_cons, List.length_nil, List.length_set] at this); omega) | (cases h_; done) | (cases h_; omega))
        | false =>
          cases h4 : r34.v (IntKind.i64.wrap (a35 + f b48.toNat)) j l m g with
          | true =>
            (simp only [L12ab.N, h1, h2, h3, h4, cond_true, cond_false] at h_; first | (have := ih_ _ _ _ h_; (try simp only [List.length_append, List.length_cons, List.length_nil, List.length_set] at this); omega) | (cases h_; done) | (cases h_; omega))
          | false =>
            (simp only [L12ab.N, h1, h2, h3, h4, cond_true, cond_false] at h_; first | (have := ih_ _ _ _ h_; (try simp only [List.length_append, List.length_cons, List.length_nil, List.length_set] at this); omega) | (cases h_; done) | (cases h_; omega))
      | false =>
        have h2p := of_decide_eq_false h2
        (simp only [L12ab.N, h1, h2, cond_true, cond_false] at h_; first | (have := ih_ _ _ _ h_; (try simp only [List.length_append, List.length_cons, List.length_nil, List.length_set] at this); omega) | (cases h_; done) | (cases h_; omega))
    | false =>
      have h1p := of_decide_eq_false h1
      (simp only [L12ab.N, h1, cond_true, cond_false] at h_; first | (have := ih_ _ _ _ h_; (try simp only [List.length_append, List.length_cons, List.length_nil, List.length_set] at this); omega) | (cases h_; done) | (cases h_; omega))
theorem L12ab.lenR0_0 (L : Int) (j : Int) (l : Int) (n : Nat) (f : Nat → Int) (m : Nat) (g : Nat → Int) (a35 : Int) {b48 : Int} {br0 : List Bool} {a0_ : List Bool} (h_ : L12ab.run L j l n f m g a35 b48 br0 = (.e0 a0_ : L12ab.O)) : (a0_).length ≤ (br0).length + ((((↑n : Int) - b48).toNat) + 1) := L12ab.len0_0 L j l n f m g a35 _ b48 br0 a0_ h_
theorem L12ab.leq0_0 (L : Int) (j : Int) (l : Int) (n : Nat) (f : Nat → Int) (m : Nat) (g : Nat → Int) (a35 : Int) : ∀ (m_ : Nat) (b48 : Int) (br0 : List Bool) (a0_ : List Bool), L12ab.N L j l n f m g a35 m_ b48 br0 = (.e0 a0_ : L12ab.O) → (a0_).length = (br0).length := by
  intro m_
  induction m_ with
  | zero =>
    intro b48 br0 a0_ h_
    simp only [L12ab.N] at h_
    cases h_
    try rfl
  | succ m_ ih_ =>
    intro b48 br0 a0_ h_
    cases h1 : decide (b48 < (↑n : Int)) with
    | true =>
      have h1p := of_decide_eq_true h1
      cases h2 : decide (IntKind.i64.wrap (IntKind.i64.wrap (a35 + f b48.toNat) + j) < L) with
      | true =>
        have h2p := of_decide_eq_true h2
        cases h3 : br0.getD (0 + (IntKind.i64.wrap (IntKind.i64.wrap (a35 + f b48.toNat) + j)).toNat) false with
        | true =>
          (simp only [L12ab.N, h1, h2, h3, cond_true, cond_false] at h_; first | (have q_ := ih_ _ _ _ h_; (try simp only [List.length_set] at *); omega) | (cases h_; done) | (cases h_; first | rfl | simp))
        | false =>
          cases h4 : r34.v (IntKind.i64.wrap (a35 + f b48.toNat)) j l m g with
          | true =>
            (simp only [L12ab.N, h1, h2, h3, h4, cond_true, cond_false] at h_; first | (have q_ := ih_ _ _ _ h_; (try simp only [List.length_set] at *); omega) | (cases h_; done) | (cases h_; first | rfl | simp))
          | false =>
            (simp only [L12ab.N, h1, h2, h3, h4, cond_true, cond_false] at h_; first | (have q_ := ih_ _ _ _ h_; (try simp only [List.length_set] at *); omega) | (cases h_; done) | (cases h_; first | rfl | simp))
      | false =>
        have h2p := of_decide_eq_false h2
        (simp only [L12ab.N, h1, h2, cond_true, cond_false] at h_; first | (have q_ := ih_ _ _ _ h_; (try simp only [List.length_set] at *); omega) | (cases h_; done) | (cases h_; first | rfl | simp))
    | false =>
      have h1p := of_decide_eq_false h1
      (simp only [L12ab.N, h1, cond_true, cond_false] at h_; first | (have q_ := ih_ _ _ _ h_; (try simp only [List.length_set] at *); omega) | (cases h_; done) | (cases h_; first | rfl | simp))
theorem L12ab.leqR0_0 (L : Int) (j : Int) (l : Int) (n : Nat) (f : Nat → Int) (m : Nat) (g : Nat → Int) (a35 : Int) {b48 : Int} {br0 : List Bool} {a0_ : List Bool} (h_ : L12ab.run L j l n f m g a35 b48 br0 = (.e0 a0_ : L12ab.O)) : (a0_).length = (br0).length := L12ab.leq0_0 L j l n f m g a35 _ b48 br0 a0_ h_

inductive L12a.O where
  | e0 (a0 : Nat) (a1 : List Int) (a2 : List Bool)
noncomputable def L12a.T (L : Int) (j : Int) (l : Int) (n : Nat) (f : Nat → Int) (m : Nat) (g : Nat → Int) (av14 : Nat) (al14 : List Int) (a35 : Int) (ar0 : List Bool) : List AV := mkT 84 [(0, AV.int IntKind.i64 L), (1, AV.int IntKind.i64 j), (2, AV.int IntKind.i64 l), (3, AV.sl 1 n fun (i : Nat) => AV.int IntKind.i64 (f i)), (4, AV.sl 1 m fun (i : Nat) => AV.int IntKind.i64 (g i)), (13, AV.ms 0 L.toNat 1 0 L.toNat), (14, AV.ms 1 av14 1 0 al14.length), (33, AV.ms 0 L.toNat 1 0 L.toNat), (34, AV.int IntKind.i64 (↑L.toNat : Int)), (35, AV.int IntKind.i64 a35)]
noncomputable def L12a.H (L : Int) (j : Int) (l : Int) (n : Nat) (f : Nat → Int) (m : Nat) (g : Nat → Int) (av14 : Nat) (al14 : List Int) (a35 : Int) (ar0 : List Bool) : AHeap := [AObj.row 1 L.toNat (Col.bools ar0), AObj.row 1 av14 (Col.ints IntKind.i64 al14)]
def L12a.inv (L : Int) (j : Int) (l : Int) (n : Nat) (f : Nat → Int) (m : Nat) (g : Nat → Int) (av14 : Nat) (al14 : List Int) (a35 : Int) (ar0 : List Bool) : Prop := 0 ≤ a35 ∧ (a35 ≤ (↑L.toNat : Int) ∨ a35 ≤ 0) ∧ (↑al14.length : Int) ≤ 1000000 * (a35 - 0) ∧ ar0.length = ((List.replicate L.toNat false).set 0 true).length
noncomputable def L12a.mu (L : Int) (j : Int) (l : Int) (n : Nat) (f : Nat → Int) (m : Nat) (g : Nat → Int) (av14 : Nat) (al14 : List Int) (a35 : Int) (ar0 : List Bool) : Nat := ((↑L.toNat : Int) - a35).toNat
noncomputable def L12a.E : L12a.O → Exit
  | .e0 a0 a1 a2 => Exit.exit 0
noncomputable def L12a.X (L : Int) (j : Int) (l : Int) (n : Nat) (f : Nat → Int) (m : Nat) (g : Nat → Int) : L12a.O → List AV
  | .e0 a0 a1 a2 => mkT 84 [(14, (AV.ms 1 a0 1 0 (List.length a1)))]
noncomputable def L12a.XH (L : Int) (j : Int) (l : Int) (n : Nat) (f : Nat → Int) (m : Nat) (g : Nat → Int) : L12a.O → AHeap
  | .e0 a0 a1 a2 => ((AObj.row 1 (L.toNat) (Col.bools a2)) :: ((AObj.row 1 a0 (Col.ints IntKind.i64 a1)) :: ([])))
noncomputable def L12a.N (L : Int) (j : Int) (l : Int) (n : Nat) (f : Nat → Int) (m : Nat) (g : Nat → Int) : Nat → Nat → (List Int) → Int → (List Bool) → L12a.O
  | 0, av14, al14, _, ar0 => .e0 av14 al14 ar0
  | k_ + 1, av14, al14, a35, ar0 => (bif decide (a35 < (↑L.toNat : Int)) then (bif ar0.getD (0 + a35.toNat) false then (match L12ab.run L j l n f m g a35 0 ar0 with | .e0 h3d0 => (L12a.N L j l n f m g k_ (av14 + 1) (al14 ++ [a35]) (IntKind.i64.wrap (a35 + 1)) (h3d0)) ) else (L12a.N L j l n f m g k_ (av14) (al14) (IntKind.i64.wrap (a35 + 1)) (ar0))) else (.e0 (av14) (al14) (ar0)))
noncomputable def L12a.run (L : Int) (j : Int) (l : Int) (n : Nat) (f : Nat → Int) (m : Nat) (g : Nat → Int) (av14 : Nat) (al14 : List Int) (a35 : Int) (ar0 : List Bool) : L12a.O := L12a.N L j l n f m g ((((↑L.toNat : Int) - a35).toNat) + 1) av14 al14 a35 ar0
def L12a.Next (L : Int) (j : Int) (l : Int) (n : Nat) (f : Nat → Int) (m : Nat) (g : Nat → Int) (k_ : Nat) (z_ : Nat × (List Int) × Int × (List Bool)) (T_ : List AV) (h_ : AHeap) : Prop := LNextP (fun (z_ : Nat × (List Int) × Int × (List Bool)) => L12a.T L j l n f m g z_.1 z_.2.1 z_.2.2.1 z_.2.2.2) (fun (z_ : Nat × (List Int) × Int × (List Bool)) => L12a.H L j l n f m g z_.1 z_.2.1 z_.2.2.1 z_.2.2.2) (fun (z_ : Nat × (List Int) × Int × (List Bool)) => L12a.inv L j l n f m g z_.1 z_.2.1 z_.2.2.1 z_.2.2.2) (fun (z_ : Nat × (List Int) × Int × (List Bool)) => L12a.mu L j l n f m g z_.1 z_.2.1 z_.2.2.1 z_.2.2.2) (fun (k_ : Nat) (z_ : Nat × (List Int) × Int × (List Bool)) => L12a.N L j l n f m g k_ z_.1 z_.2.1 z_.2.2.1 z_.2.2.2) k_ z_ T_ h_
def L12a.End (L : Int) (j : Int) (l : Int) (n : Nat) (f : Nat → Int) (m : Nat) (g : Nat → Int) (k_ : Nat) (z_ : Nat × (List Int) × Int × (List Bool)) (e_ : Exit) (T_ : List AV) (h_ : AHeap) : Prop := LEndP (fun (z_ : Nat × (List Int) × Int × (List Bool)) => L12a.H L j l n f m g z_.1 z_.2.1 z_.2.2.1 z_.2.2.2) (fun (k_ : Nat) (z_ : Nat × (List Int) × Int × (List Bool)) => L12a.N L j l n f m g k_ z_.1 z_.2.1 z_.2.2.1 z_.2.2.2) L12a.E (L12a.X L j l n f m g) (L12a.XH L j l n f m g) k_ z_ e_ T_ h_
theorem L12a.nx (L : Int) (j : Int) (l : Int) (n : Nat) (f : Nat → Int) (m : Nat) (g : Nat → Int) {k_ : Nat} {z_ : Nat × (List Int) × Int × (List Bool)} {h_ : AHeap} (s_ : Nat × (List Int) × Int × (List Bool)) (h1 : L12a.inv L j l n f m g s_.1 s_.2.1 s_.2.2.1 s_.2.2.2) (h2 : L12a.mu L j l n f m g s_.1 s_.2.1 s_.2.2.1 s_.2.2.2 < L12a.mu L j l n f m g z_.1 z_.2.1 z_.2.2.1 z_.2.2.2) (h3 : L12a.N L j l n f m g k_ s_.1 s_.2.1 s_.2.2.1 s_.2.2.2 = L12a.N L j l n f m g (k_ + 1) z_.1 z_.2.1 z_.2.2.1 z_.2.2.2) (h4 : PopOk (L12a.H L j l n f m g z_.1 z_.2.1 z_.2.2.1 z_.2.2.2) h_ (L12a.T L j l n f m g s_.1 s_.2.1 s_.2.2.1 s_.2.2.2) (L12a.H L j l n f m g s_.1 s_.2.1 s_.2.2.1 s_.2.2.2)) : LNextP (fun (z_ : Nat × (List Int) × Int × (List Bool)) => L12a.T L j l n f m g z_.1 z_.2.1 z_.2.2.1 z_.2.2.2) (fun (z_ : Nat × (List Int) × Int × (List Bool)) => L12a.H L j l n f m g z_.1 z_.2.1 z_.2.2.1 z_.2.2.2) (fun (z_ : Nat × (List Int) × Int × (List Bool)) => L12a.inv L j l n f m g z_.1 z_.2.1 z_.2.2.1 z_.2.2.2) (fun (z_ : Nat × (List Int) × Int × (List Bool)) => L12a.mu L j l n f m g z_.1 z_.2.1 z_.2.2.1 z_.2.2.2) (fun (k_ : Nat) (z_ : Nat × (List Int) × Int × (List Bool)) => L12a.N L j l n f m g k_ z_.1 z_.2.1 z_.2.2.1 z_.2.2.2) k_ z_ (L12a.T L j l n f m g s_.1 s_.2.1 s_.2.2.1 s_.2.2.2) h_ := LNextP.mk (Tm := (fun (z_ : Nat × (List Int) × Int × (List Bool)) => L12a.T L j l n f m g z_.1 z_.2.1 z_.2.2.1 z_.2.2.2)) (Hp := (fun (z_ : Nat × (List Int) × Int × (List Bool)) => L12a.H L j l n f m g z_.1 z_.2.1 z_.2.2.1 z_.2.2.2)) (inv := (fun (z_ : Nat × (List Int) × Int × (List Bool)) => L12a.inv L j l n f m g z_.1 z_.2.1 z_.2.2.1 z_.2.2.2)) (mu := (fun (z_ : Nat × (List Int) × Int × (List Bool)) => L12a.mu L j l n f m g z_.1 z_.2.1 z_.2.2.1 z_.2.2.2)) (l := (fun (k_ : Nat) (z_ : Nat × (List Int) × Int × (List Bool)) => L12a.N L j l n f m g k_ z_.1 z_.2.1 z_.2.2.1 z_.2.2.2)) s_ h1 h2 h3 h4
theorem L12a.en (L : Int) (j : Int) (l : Int) (n : Nat) (f : Nat → Int) (m : Nat) (g : Nat → Int) {k_ : Nat} {z_ : Nat × (List Int) × Int × (List Bool)} {h_ : AHeap} (o_ : L12a.O) (h3 : L12a.N L j l n f m g (k_ + 1) z_.1 z_.2.1 z_.2.2.1 z_.2.2.2 = o_) (h4 : PopOk (L12a.H L j l n f m g z_.1 z_.2.1 z_.2.2.1 z_.2.2.2) h_ (L12a.X L j l n f m g o_) (L12a.XH L j l n f m g o_)) : LEndP (fun (z_ : Nat × (List Int) × Int × (List Bool)) => L12a.H L j l n f m g z_.1 z_.2.1 z_.2.2.1 z_.2.2.2) (fun (k_ : Nat) (z_ : Nat × (List Int) × Int × (List Bool)) => L12a.N L j l n f m g k_ z_.1 z_.2.1 z_.2.2.1 z_.2.2.2) L12a.E (L12a.X L j l n f m g) (L12a.XH L j l n f m g) k_ z_ (L12a.E o_) (L12a.X L j l n f m g o_) h_ := LEndP.mk (Hp := (fun (z_ : Nat × (List Int) × Int × (List Bool)) => L12a.H L j l n f m g z_.1 z_.2.1 z_.2.2.1 z_.2.2.2)) (l := (fun (k_ : Nat) (z_ : Nat × (List Int) × Int × (List Bool)) => L12a.N L j l n f m g k_ z_.1 z_.2.1 z_.2.2.1 z_.2.2.2)) (oE := L12a.E) (oT := L12a.X L j l n f m g) (oH := L12a.XH L j l n f m g) o_ h3 h4
theorem L12a.spec (L : Int) (j : Int) (l : Int) (n : Nat) (f : Nat → Int) (hn : n ≤ 9223372036854775807) (m : Nat) (g : Nat → Int) (hm : m ≤ 9223372036854775807) (k0_1 : (r32.v L j l n f m g == 0) = true) (p0_1 : r32.v L j l n f m g = 0) (k_ : Nat) (z_ : Nat × (List Int) × Int × (List Bool)) (hi_ : L12a.inv L j l n f m g z_.1 z_.2.1 z_.2.2.1 z_.2.2.2) (hm_ : L12a.mu L j l n f m g z_.1 z_.2.1 z_.2.2.1 z_.2.2.2 < k_) : LoopTo Try.prog (loopN Try.f12 0) (L12a.T L j l n f m g z_.1 z_.2.1 z_.2.2.1 z_.2.2.2) (L12a.H L j l n f m g z_.1 z_.2.1 z_.2.2.1 z_.2.2.2) (L12a.E (L12a.N L j l n f m g k_ z_.1 z_.2.1 z_.2.2.1 z_.2.2.2)) (L12a.X L j l n f m g (L12a.N L j l n f m g k_ z_.1 z_.2.1 z_.2.2.1 z_.2.2.2)) (L12a.XH L j l n f m g (L12a.N L j l n f m g k_ z_.1 z_.2.1 z_.2.2.1 z_.2.2.2)) := by
  refine LoopTo.fuelP mix (fun (z_ : Nat × (List Int) × Int × (List Bool)) => L12a.T L j l n f m g z_.1 z_.2.1 z_.2.2.1 z_.2.2.2) (fun (z_ : Nat × (List Int) × Int × (List Bool)) => L12a.H L j l n f m g z_.1 z_.2.1 z_.2.2.1 z_.2.2.2) (fun (z_ : Nat × (List Int) × Int × (List Bool)) => L12a.inv L j l n f m g z_.1 z_.2.1 z_.2.2.1 z_.2.2.2) (fun (z_ : Nat × (List Int) × Int × (List Bool)) => L12a.mu L j l n f m g z_.1 z_.2.1 z_.2.2.1 z_.2.2.2) (fun (k_ : Nat) (z_ : Nat × (List Int) × Int × (List Bool)) => L12a.N L j l n f m g k_ z_.1 z_.2.1 z_.2.2.1 z_.2.2.2) L12a.E (L12a.X L j l n f m g) (L12a.XH L j l n f m g) (others 84 [0, 1, 2, 3, 4, 13, 14, 33, 34, 35]) (others 84 [10, 11]) (others 84 [14]) ?_ k_ z_ hi_ hm_
  clear hm_ hi_ z_ k_
  intro k_ z_ hinv hmu
  obtain ⟨av14, al14, a35, ar0⟩ := z_
  have hinv : 0 ≤ a35 ∧ (a35 ≤ (↑L.toNat : Int) ∨ a35 ≤ 0) ∧ (↑al14.length : Int) ≤ 1000000 * (a35 - 0) ∧ ar0.length = ((List.replicate L.toNat false).set 0 true).length := hinv
  have hmu : (((↑L.toNat : Int) - a35).toNat) < k_ + 1 := hmu
  cases h1 : decide (a35 < (↑L.toNat : Int)) with
  | true =>
    have h1p := of_decide_eq_true h1
    try have := bd_ok (by first | assumption | omega) (by first | assumption | omega) (by first | assumption | omega)
    try have := bd_len (by first | assumption | omega)
    try have := bd_sz (by first | assumption | omega) (by first | assumption | omega) (by first | assumption | omega)
    try have := L12ab.lenR0_0 _ _ _ _ _ _ _ _ (by assumption); (try simp only [List.length_nil] at this)
    try have := L12ab.leqR0_0 _ _ _ _ _ _ _ _ (by assumption); (try simp only [List.length_replicate] at this)
    have o0 : (0 : Int) ≤ a35 := by first | assumption | omega | (simp_all; done)
    have o1 : a35 < (↑L.toNat : Int) := by first | assumption | omega | (simp_all; done)
    have o2 : (0 : Nat) + a35.toNat < (Col.bools ar0).len := by first | assumption | omega | (simp only [List.length_append, List.length_cons, List.length_nil, List.length_map]; omega) | rfl | (exact Nat.le_refl _) | (simp [Col.len]; done) | (simp only [Col.len, zero_bool, zero_int, List.length_replicate, List.length_set] at *; omega) | (simp_all; done)
    cases h2 : ar0.getD (0 + a35.toNat) false with
    | true =>
      try have := bd_ok (by first | assumption | omega) (by first | assumption | omega) (by first | assumption | omega)
      try have := bd_len (by first | assumption | omega)
      try have := bd_sz (by first | assumption | omega) (by first | assumption | omega) (by first | assumption | omega)
      try have := L12ab.lenR0_0 _ _ _ _ _ _ _ _ (by assumption); (try simp only [List.length_nil] at this)
      try have := L12ab.leqR0_0 _ _ _ _ _ _ _ _ (by assumption); (try simp only [List.length_replicate] at this)
      have o3 : (al14.length + (1 : Nat)) * (8 : Nat) ≤ (140737488355328 : Nat) := by first | assumption | omega | (simp only [List.length_append, List.length_cons, List.length_nil, List.length_map]; omega) | (simp_all; done)
      have o4 : al14.length = (Col.ints IntKind.i64 al14).len := by first | assumption | omega | (simp only [List.length_append, List.length_cons, List.length_nil, List.length_map]; omega) | rfl | (exact Nat.le_refl _) | (simp [Col.len]; done) | (simp only [Col.len, zero_bool, zero_int, List.length_replicate, List.length_set] at *; omega) | (simp_all; done)
      have o5 : n ≤ (9223372036854775807 : Nat) := by first | assumption | omega | (simp_all; done)
      have o6 : m ≤ (9223372036854775807 : Nat) := by first | assumption | omega | (simp_all; done)
      have o7 : (r32.v L j l n f m g == (0 : Int)) = true := by first | assumption | omega | (simp_all; done)
      have o8 : r32.v L j l n f m g = (0 : Int) := by first | assumption | omega | (simp_all; done)
      have o9 : a35 ≤ (↑L.toNat : Int) ∨ a35 ≤ (0 : Int) := by first | assumption | omega | (simp_all; done)
      have o10 : (↑al14.length : Int) ≤ (1000000 : Int) * (a35 - (0 : Int)) := by first | assumption | omega | (simp only [List.length_append, List.length_cons, List.length_nil, List.length_map]; omega) | (simp_all; done)
      have o11 : ar0.length = ((List.replicate L.toNat false).set (0 : Nat) true).length := by first | assumption | omega | (simp only [List.length_append, List.length_cons, List.length_nil, List.length_map]; omega) | (simp_all; done)
      have o12 : decide (a35 < (↑L.toNat : Int)) = true := by first | assumption | omega | (simp_all; done)
      have o13 : ar0.getD ((0 : Nat) + a35.toNat) false = true := by first | assumption | omega | (simp_all; done)
      have o14 : (0 : Int) ≤ (↑n : Int) ∨ (0 : Int) ≤ (0 : Int) := by first | assumption | omega | (simp_all; done)
      cases h3 : L12ab.run L j l n f m g a35 0 ar0 with
      | e0 h3d0 =>
        try have := bd_ok (by first | assumption | omega) (by first | assumption | omega) (by first | assumption | omega)
        try have := bd_len (by first | assumption | omega)
        try have := bd_sz (by first | assumption | omega) (by first | assumption | omega) (by first | assumption | omega)
        try have := L12ab.lenR0_0 _ _ _ _ _ _ _ _ (by assumption); (try simp only [List.length_nil] at this)
        try have := L12ab.leqR0_0 _ _ _ _ _ _ _ _ (by assumption); (try simp only [List.length_replicate] at this)
        try have := IntWalk.i64_in (a35 + 1) (by omega)
        have o15 : (0 : Int) ≤ IntKind.i64.wrap (a35 + (1 : Int)) := by first | assumption | omega | (simp_all; done)
        have o16 : IntKind.i64.wrap (a35 + (1 : Int)) ≤ (↑L.toNat : Int) ∨ IntKind.i64.wrap (a35 + (1 : Int)) ≤ (0 : Int) := by first | assumption | omega | (simp_all; done)
        have o17 : (↑(al14 ++ [a35]).length : Int) ≤ (1000000 : Int) * (IntKind.i64.wrap (a35 + (1 : Int)) - (0 : Int)) := by first | assumption | omega | (simp only [List.length_append, List.length_cons, List.length_nil, List.length_map]; omega) | (simp_all; done)
        have o18 : h3d0.length = ((List.replicate L.toNat false).set (0 : Nat) true).length := by first | assumption | omega | (simp only [List.length_append, List.length_cons, List.length_nil, List.length_map]; omega) | (simp_all; done)
        have o19 : ((↑L.toNat : Int) - IntKind.i64.wrap (a35 + (1 : Int))).toNat < ((↑L.toNat : Int) - a35).toNat := by first | assumption | omega | (simp_all; done)
        exact ⟨[.b true, .b false, .app .one false, .loop (others 84 [0, 1, 2, 3, 4, 13, 14, 15, 33, 34, 35, 46, 47, 48]) (Exit.exit 2) (L12ab.X L j l n f m g av14 al14 a35 ar0 (L12ab.O.e0 h3d0)) (L12ab.XH L j l n f m g av14 al14 a35 ar0 (L12ab.O.e0 h3d0))], kmp (by kernel_rfl) (And.intro h1 (And.intro (And.intro o0 o1) (And.intro (And.intro (rfl : L.toNat = L.toNat) (And.intro (show (1 : Nat) = (1 : Nat) by first | decide | exact Int.NonNeg.mk _) o2)) (And.intro (show (bnot (ar0.getD (0 + a35.toNat) false)) = false by rw [h2]; try rfl) (And.intro (And.intro (show (1 : Nat) = (1 : Nat) by first | decide | exact Int.NonNeg.mk _) (And.intro (show AppMode.one.needs 1 fun (a : Nat) => (Col.ofList [AV.int IntKind.i64 a35]).get a by first | exact ⟨rfl, rfl⟩ | simp [AppMode.needs]) (And.intro o3 (And.intro (rfl : av14 = av14) (And.intro (show (0 : Nat) = (0 : Nat) by first | decide | exact Int.NonNeg.mk _) o4))))) (And.intro (L12ab.e0 (L) (j) (l) (n) (f) o5 (m) (g) o6 o7 o8 (av14) (al14) (a35) (ar0) o0 o9 o10 o11 o12 o1 o13 (0) (ar0) (And.intro (show (0 : Int) ≤ (0 : Int) by first | decide | exact Int.NonNeg.mk _) (And.intro o14 (rfl : ar0.length = ar0.length))) h3d0 h3) (L12a.nx L j l n f m g (k_ := k_) (z_ := (av14, al14, a35, ar0)) ((av14 + 1, al14 ++ [a35], IntKind.i64.wrap (a35 + 1), h3d0)) (And.intro o15 (And.intro o16 (And.intro o17 o18))) o19 (by first | (simp only [L12a.N, h1, h2, h3, cond_true, cond_false]; done) | (try unfold L12a.N; try simp only [h1, cond_true, cond_false]; try simp only [h2, cond_true, cond_false]; try simp only [h3, cond_true, cond_false]; try rfl; done)) PopOk.same)))))))⟩
    | false =>
      try have := bd_ok (by first | assumption | omega) (by first | assumption | omega) (by first | assumption | omega)
      try have := bd_len (by first | assumption | omega)
      try have := bd_sz (by first | assumption | omega) (by first | assumption | omega) (by first | assumption | omega)
      try have := L12ab.lenR0_0 _ _ _ _ _ _ _ _ (by assumption); (try simp only [List.length_nil] at this)
      try have := L12ab.leqR0_0 _ _ _ _ _ _ _ _ (by assumption); (try simp only [List.length_replicate] at this)
      try have := IntWalk.i64_in (a35 + 1) (by omega)
      have o15 : (0 : Int) ≤ IntKind.i64.wrap (a35 + (1 : Int)) := by first | assumption | omega | (simp_all; done)
      have o16 : IntKind.i64.wrap (a35 + (1 : Int)) ≤ (↑L.toNat : Int) ∨ IntKind.i64.wrap (a35 + (1 : Int)) ≤ (0 : Int) := by first | assumption | omega | (simp_all; done)
      have o20 : (↑al14.length : Int) ≤ (1000000 : Int) * (IntKind.i64.wrap (a35 + (1 : Int)) - (0 : Int)) := by first | assumption | omega | (simp only [List.length_append, List.length_cons, List.length_nil, List.length_map]; omega) | (simp_all; done)
      have o11 : ar0.length = ((List.replicate L.toNat false).set (0 : Nat) true).length := by first | assumption | omega | (simp only [List.length_append, List.length_cons, List.length_nil, List.length_map]; omega) | (simp_all; done)
      have o19 : ((↑L.toNat : Int) - IntKind.i64.wrap (a35 + (1 : Int))).toNat < ((↑L.toNat : Int) - a35).toNat := by first | assumption | omega | (simp_all; done)
      exact ⟨[.b true, .b true], kmp (by kernel_rfl) (And.intro h1 (And.intro (And.intro o0 o1) (And.intro (And.intro (rfl : L.toNat = L.toNat) (And.intro (show (1 : Nat) = (1 : Nat) by first | decide | exact Int.NonNeg.mk _) o2)) (And.intro (show (bnot (ar0.getD (0 + a35.toNat) false)) = true by rw [h2]; try rfl) (L12a.nx L j l n f m g (k_ := k_) (z_ := (av14, al14, a35, ar0)) ((av14, al14, IntKind.i64.wrap (a35 + 1), ar0)) (And.intro o15 (And.intro o16 (And.intro o20 o11))) o19 (by first | (simp only [L12a.N, h1, h2, cond_true, cond_false]; done) | (try unfold L12a.N; try simp only [h1, cond_true, cond_false]; try simp only [h2, cond_true, cond_false]; try rfl; done)) PopOk.same)))))⟩
  | false =>
    have h1p := of_decide_eq_false h1
    exact ⟨[.b false], kmp (by kernel_rfl) (And.intro h1 (L12a.en L j l n f m g (k_ := k_) (z_ := (av14, al14, a35, ar0)) (.e0 (av14) (al14) (ar0) : L12a.O) (by first | (simp only [L12a.N, h1, cond_true, cond_false]; done) | (try unfold L12a.N; try simp only [h1, cond_true, cond_false]; try rfl; done)) PopOk.same))⟩
theorem L12a.e0 (L : Int) (j : Int) (l : Int) (n : Nat) (f : Nat → Int) (hn : n ≤ 9223372036854775807) (m : Nat) (g : Nat → Int) (hm : m ≤ 9223372036854775807) (k0_1 : (r32.v L j l n f m g == 0) = true) (p0_1 : r32.v L j l n f m g = 0) (av14 : Nat) (al14 : List Int) (a35 : Int) (ar0 : List Bool) (hinv : L12a.inv L j l n f m g av14 al14 a35 ar0) (a0 : Nat) (a1 : List Int) (a2 : List Bool) (hN : L12a.run L j l n f m g av14 al14 a35 ar0 = (.e0 a0 a1 a2 : L12a.O)) : LoopTo Try.prog (loopN Try.f12 0) (L12a.T L j l n f m g av14 al14 a35 ar0) (L12a.H L j l n f m g av14 al14 a35 ar0) (Exit.exit 0) (L12a.X L j l n f m g (.e0 a0 a1 a2 : L12a.O)) (L12a.XH L j l n f m g (.e0 a0 a1 a2 : L12a.O)) := by
  have h_ := L12a.spec L j l n f hn m g hm k0_1 p0_1 ((((↑L.toNat : Int) - a35).toNat) + 1) (av14, al14, a35, ar0) hinv (Nat.lt_succ_self _)
  unfold L12a.run at hN
  simp only [hN] at h_
  exact h_
theorem L12a.leq0_2 (L : Int) (j : Int) (l : Int) (n : Nat) (f : Nat → Int) (m : Nat) (g : Nat → Int) : ∀ (m_ : Nat) (av14 : Nat) (al14 : List Int) (a35 : Int) (ar0 : List Bool) (a0_ : Nat) (a1_ : List Int) (a2_ : List Bool), L12a.N L j l n f m g m_ av14 al14 a35 ar0 = (.e0 a0_ a1_ a2_ : L12a.O) → (a2_).length = (ar0).length := by
  intro m_
  induction m_ with
  | zero =>
    intro av14 al14 a35 ar0 a0_ a1_ a2_ h_
    simp only [L12a.N] at h_
    cases h_
    try rfl
  | succ m_ ih_ =>
    intro av14 al14 a35 ar0 a0_ a1_ a2_ h_
    cases h1 : decide (a35 < (↑L.toNat : Int)) with
    | true =>
      have h1p := of_decide_eq_true h1
      cases h2 : ar0.getD (0 + a35.toNat) false with
      | true =>
        cases h3 : L12ab.run L j l n f m g a35 0 ar0 with
        | e0 h3d0 =>
          (simp only [L12a.N, h1, h2, h3, cond_true, cond_false] at h_; first | (have q_ := ih_ _ _ _ _ _ _ _ h_; (try have := L12ab.lenR0_0 _ _ _ _ _ _ _ _ (by assumption); (try simp only [List.length_nil] at this)); (try have := L12ab.leqR0_0 _ _ _ _ _ _ _ _ (by assumption); (try simp only [List.length_replicate] at this)); (try simp only [List.length_set] at *); omega) | (cases h_; done) | (cases h_; first | rfl | simp))
      | false =>
        (simp only [L12a.N, h1, h2, cond_true, cond_false] at h_; first | (have q_ := ih_ _ _ _ _ _ _ _ h_; (try have := L12ab.lenR0_0 _ _ _ _ _ _ _ _ (by assumption); (try simp only [List.length_nil] at this)); (try have := L12ab.leqR0_0 _ _ _ _ _ _ _ _ (by assumption); (try simp only [List.length_replicate] at this)); (try simp only [List.length_set] at *); omega) | (cases h_; done) | (cases h_; first | rfl | simp))
    | false =>
      have h1p := of_decide_eq_false h1
      (simp only [L12a.N, h1, cond_true, cond_false] at h_; first | (have q_ := ih_ _ _ _ _ _ _ _ h_; (try have := L12ab.lenR0_0 _ _ _ _ _ _ _ _ (by assumption); (try simp only [List.length_nil] at this)); (try have := L12ab.leqR0_0 _ _ _ _ _ _ _ _ (by assumption); (try simp only [List.length_replicate] at this)); (try simp only [List.length_set] at *); omega) | (cases h_; done) | (cases h_; first | rfl | simp))
theorem L12a.leqR0_2 (L : Int) (j : Int) (l : Int) (n : Nat) (f : Nat → Int) (m : Nat) (g : Nat → Int) {av14 : Nat} {al14 : List Int} {a35 : Int} {ar0 : List Bool} {a0_ : Nat} {a1_ : List Int} {a2_ : List Bool} (h_ : L12a.run L j l n f m g av14 al14 a35 ar0 = (.e0 a0_ a1_ a2_ : L12a.O)) : (a2_).length = (ar0).length := L12a.leq0_2 L j l n f m g _ av14 al14 a35 ar0 a0_ a1_ a2_ h_

noncomputable def r12.v0 (L : Int) (j : Int) (l : Int) (n : Nat) (f : Nat → Int) (m : Nat) (g : Nat → Int) : List Int := (bif r32.v L j l n f m g == 0 then (match L12a.run L j l n f m g 0 [] 0 ((List.replicate L.toNat false).set 0 true) with | .e0 h2d0 h2d1 h2d2 => h2d1 ) else ([] : List Int))
noncomputable def r12.v1 (L : Int) (j : Int) (l : Int) (n : Nat) (f : Nat → Int) (m : Nat) (g : Nat → Int) : Int := (bif r32.v L j l n f m g == 0 then (match L12a.run L j l n f m g 0 [] 0 ((List.replicate L.toNat false).set 0 true) with | .e0 h2d0 h2d1 h2d2 => 0 ) else r32.v L j l n f m g)
theorem r12 (L : Int) (j : Int) (l : Int) (n : Nat) (f : Nat → Int) (hn : n ≤ 9223372036854775807) (m : Nat) (g : Nat → Int) (hm : m ≤ 9223372036854775807) (h : AHeap) : Ret Try.prog 12 ([AV.int IntKind.i64 L, AV.int IntKind.i64 j, AV.int IntKind.i64 l, ivs n f, ivs m g]) h (AV.tup [(avInts IntKind.i64 (r12.v0 L j l n f m g)), (AV.int IntKind.i64 (r12.v1 L j l n f m g))]) h := by
  try have := bd_ok (by first | assumption | omega) (by first | assumption | omega) (by first | assumption | omega)
  try have := bd_len (by first | assumption | omega)
  try have := bd_sz (by first | assumption | omega) (by first | assumption | omega) (by first | assumption | omega)
  have o0 : n ≤ (9223372036854775807 : Nat) := by first | assumption | omega | (simp_all; done)
  have o1 : m ≤ (9223372036854775807 : Nat) := by first | assumption | omega | (simp_all; done)
  cases h1 : r32.v L j l n f m g == 0 with
  | true =>
    have h1p := eq_of_beq h1
    try have := bd_ok (by first | assumption | omega) (by first | assumption | omega) (by first | assumption | omega)
    try have := bd_len (by first | assumption | omega)
    try have := bd_sz (by first | assumption | omega) (by first | assumption | omega) (by first | assumption | omega)
    try have := L12a.leqR0_2 _ _ _ _ _ _ _ (by assumption); (try simp only [List.length_replicate] at this)
    have o2 : (0 : Int) ≤ L := by first | assumption | omega | (simp_all; done)
    have o3 : (1 : Int) * L ≤ (281474976710656 : Int) := by first | assumption | omega | (simp_all; done)
    have o4 : L ≤ (9223372036854775807 : Int) := by first | assumption | omega | (simp_all; done)
    have o5 : (0 : Int) < (↑L.toNat : Int) := by first | assumption | omega | (simp_all; done)
    have o6 : (0 : Nat) < (Col.zero (ofV (Value.bool false)) L.toNat).len := by first | assumption | omega | (simp only [List.length_append, List.length_cons, List.length_nil, List.length_map]; omega) | rfl | (exact Nat.le_refl _) | (simp [Col.len]; done) | (simp only [Col.len, zero_bool, zero_int, List.length_replicate, List.length_set] at *; omega) | (simp_all; done)
    have o7 : (r32.v L j l n f m g == (0 : Int)) = true := by first | assumption | omega | (simp_all; done)
    have o8 : r32.v L j l n f m g = (0 : Int) := by first | assumption | omega | (simp_all; done)
    have o9 : (0 : Int) ≤ (↑L.toNat : Int) ∨ (0 : Int) ≤ (0 : Int) := by first | assumption | omega | (simp_all; done)
    cases h2 : L12a.run L j l n f m g 0 [] 0 ((List.replicate L.toNat false).set 0 true) with
    | e0 h2d0 h2d1 h2d2 =>
      try have := bd_ok (by first | assumption | omega) (by first | assumption | omega) (by first | assumption | omega)
      try have := bd_len (by first | assumption | omega)
      try have := bd_sz (by first | assumption | omega) (by first | assumption | omega) (by first | assumption | omega)
      try have := L12a.leqR0_2 _ _ _ _ _ _ _ (by assumption); (try simp only [List.length_replicate] at this)
      have o10 : (0 : Nat) + h2d1.length ≤ (Col.ints IntKind.i64 h2d1).len := by first | assumption | omega | (simp only [List.length_append, List.length_cons, List.length_nil, List.length_map]; omega) | rfl | (exact Nat.le_refl _) | (simp [Col.len]; done) | (simp only [Col.len, zero_bool, zero_int, List.length_replicate, List.length_set] at *; omega) | (simp_all; done)
      exact Ret.of_run1 mix [(avInts IntKind.i64 (r12.v0 L j l n f m g)), (AV.int IntKind.i64 (r12.v1 L j l n f m g))] Try.func12 rfl [.ret (AV.int IntKind.i64 (r32.v L j l n f m g)) ([]), .b false, .virt [] [(none, 14, 1, Col.ints IntKind.i64 [])], .loop (others 84 [0, 1, 2, 3, 4, 13, 14, 33, 34, 35]) (Exit.exit 0) (L12a.X L j l n f m g (L12a.O.e0 h2d0 h2d1 h2d2)) (L12a.XH L j l n f m g (L12a.O.e0 h2d0 h2d1 h2d2))] (by simp) (by simp) (kmp (by kernel_rfl) (And.intro (r32 (L) (j) (l) (n) (f) o0 (m) (g) o1 ([])) (And.intro (show (bnot (r32.v L j l n f m g == 0)) = false by rw [h1]; try rfl) (And.intro (And.intro (rfl : L = L) (And.intro o2 (And.intro o3 o4))) (And.intro (And.intro (show (0 : Int) ≤ (0 : Int) by first | decide | exact Int.NonNeg.mk _) o5) (And.intro (And.intro (rfl : L.toNat = L.toNat) o6) (And.intro (And.intro (rfl : AV.snil = AV.snil) (And.intro (rfl : (0 : Nat) = 0) trivial)) (And.intro (L12a.e0 (L) (j) (l) (n) (f) o0 (m) (g) o1 o7 o8 (0) ([]) (0) ((List.replicate L.toNat false).set 0 true) (And.intro (show (0 : Int) ≤ (0 : Int) by first | decide | exact Int.NonNeg.mk _) (And.intro o9 (And.intro (show (0 : Int) ≤ (0 : Int) by first | decide | exact Int.NonNeg.mk _) (rfl : ((List.replicate L.toNat false).set (0 : Nat) true).length = ((List.replicate L.toNat false).set (0 : Nat) true).length)))) h2d0 h2d1 h2d2 h2) (And.intro (And.intro (rfl : h2d0 = h2d0) (And.intro (show (1 : Nat) = (1 : Nat) by first | decide | exact Int.NonNeg.mk _) (And.intro o10 (show ((avInts IntKind.i64 h2d1)) = ((avInts IntKind.i64 (r12.v0 L j l n f m g))) by first | (simp only [r12.v0, r12.v1, h1, h2, cond_true, cond_false]; done) | (try unfold r12.v0; try unfold r12.v1; try simp only [h1, cond_true, cond_false]; try simp only [h2, cond_true, cond_false]; try rfl; done) | rfl)))) (And.intro (show (AV.int IntKind.i64 0) = ((AV.int IntKind.i64 (r12.v1 L j l n f m g))) by first | (simp only [r12.v0, r12.v1, h1, h2, cond_true, cond_false]; done) | (try unfold r12.v0; try unfold r12.v1; try simp only [h1, cond_true, cond_false]; try simp only [h2, cond_true, cond_false]; try rfl; done) | rfl) trivial)))))))))) h
  | false =>
    have h1p := ne_of_beq_false h1
    exact Ret.val (show (AV.tup [(avInts IntKind.i64 ([] : List Int)), AV.int IntKind.i64 (r32.v L j l n f m g)]) = (AV.tup [(avInts IntKind.i64 (r12.v0 L j l n f m g)), (AV.int IntKind.i64 (r12.v1 L j l n f m g))]) by first | (simp only [r12.v0, r12.v1, h1, cond_true, cond_false]; done) | (try unfold r12.v0; try unfold r12.v1; try simp only [h1, cond_true, cond_false]; try rfl; done) | rfl) (Ret.of_run1 mix [(avInts IntKind.i64 ([] : List Int)), AV.int IntKind.i64 (r32.v L j l n f m g)] Try.func12 rfl [.ret (AV.int IntKind.i64 (r32.v L j l n f m g)) ([]), .b true] (by simp) (by simp) (kmp (by kernel_rfl) (And.intro (r32 (L) (j) (l) (n) (f) o0 (m) (g) o1 ([])) (And.intro (show (bnot (r32.v L j l n f m g == 0)) = true by rw [h1]; try rfl) (And.intro (rfl : ((avInts IntKind.i64 ([] : List Int))) = ((avInts IntKind.i64 ([] : List Int)))) (And.intro (rfl : (AV.int IntKind.i64 (r32.v L j l n f m g)) = (AV.int IntKind.i64 (r32.v L j l n f m g))) trivial))))) h)

end Go.Proofs.Ytjdbmmilcihpoaa

/- Plain laws: Laid and Reach are as their references. Conditions: none. -/
open Go
namespace Go.Proofs.Ytjdbmmilcihpoaa
set_option linter.unusedVariables false
set_option linter.unusedSimpArgs false
variable {L j l : Int} {n m k : Nat} {f g s : Nat → Int}

def out13 (L : Int) : L13a.O → Bool
  | .e0 => false
  | .e1 x => x == L
def out14 (L : Int) : L14a.O → Bool
  | .e0 => false
  | .e1 x => x == L

/-- Past the end nothing is a layout. -/
theorem L14_past (hn : n ≤ 9223372036854775807) {a : Int} (ha : a > L) {i : Nat} (hi : i < k) (q : Nat) : out14 L (L14a.N L j l n f m g k s q a (i : Int)) = false := by
  cases q with
  | zero => rfl
  | succ q =>
    simp only [L14a.N]
    rw [decide_eq_true (show (i : Int) < k by omega), L14b_eq hn]
    simp only [cond_true]
    cases memB n f (s ((i : Nat) : Int).toNat) with
    | false => rfl
    | true => rw [decide_eq_true ha]; rfl

theorem laid_same (h : LOk L j l n f m g) (hn : n ≤ 9223372036854775807) (hm : m ≤ 9223372036854775807) (hk : k ≤ 9223372036854775807) :
    ∀ q i a, i ≤ k → k - i < q → 0 ≤ a → a ≤ 21000 → out13 L (L13a.N L j l n f m g k s q a (i : Int)) = out14 L (L14a.N L j l n f m g k s q a (i : Int)) := by
  have hl1 := h.l1
  have hl2 := h.l2
  have hj1 := h.j1
  have hj2 := h.j2
  intro q
  induction q with
  | zero => intro i a _ h; omega
  | succ q ih =>
    intro i a hi hq ha0 ha1
    simp only [L13a.N, L14a.N]
    by_cases hlt : i < k
    · rw [decide_eq_true (show (i : Int) < k by omega), L14b_eq hn, r35_eq hn, wrap_succ hk hlt]
      simp only [cond_true, Int.toNat_natCast]
      cases hmem : memB n f (s i) with
      | false => rfl
      | true =>
        obtain ⟨x1, x2⟩ := mem_bd h hmem
        have w1 : IntKind.i64.wrap (a + s i) = a + s i := i64_small (by omega)
        have w2 : IntKind.i64.wrap (a + s i + j) = a + s i + j := i64_small (by omega)
        have w3 : IntKind.i64.wrap (L - a) = L - a := i64_small (by omega)
        have w4 : IntKind.i64.wrap ((k : Int) - 1) = (k : Int) - 1 := i64_small (by omega)
        simp only [w1, w2, w3, w4, cond_true, free_same _ hm]
        by_cases c : s i > L - a
        · rw [decide_eq_true c]
          simp only [cond_true]
          show false = _
          by_cases c2 : a > L
          · rw [decide_eq_true c2]; rfl
          · rw [decide_eq_false c2]
            simp only [cond_false]
            by_cases c3 : (i : Int) < (k : Int) - 1
            · rw [decide_eq_true c3]
              simp only [cond_true]
              cases r34.v (a + s i) j l m g with
              | false => rfl
              | true => exact (L14_past hn (show a + s i + j > L by omega) (show i + 1 < k by omega) q).symm
            · rw [decide_eq_false c3]
              simp only [cond_false]
              obtain rfl : k = i + 1 := by omega
              cases q with
              | zero => rfl
              | succ q =>
                simp only [L14a.N]
                rw [decide_eq_false (show ¬ ((i + 1 : Nat) : Int) < ((i + 1 : Nat) : Int) by omega)]
                exact (beq_eq_false_iff_ne.2 (show a + s i ≠ L by omega)).symm
        · rw [decide_eq_false c, decide_eq_false (show ¬ a > L by omega)]
          simp only [cond_false]
          by_cases c3 : (i : Int) < (k : Int) - 1
          · rw [decide_eq_true c3]
            simp only [cond_true]
            cases r34.v (a + s i) j l m g with
            | false => rfl
            | true => exact ih (i + 1) _ hlt (by omega) (by omega) (by omega)
          · rw [decide_eq_false c3]
            exact ih (i + 1) _ hlt (by omega) (by omega) (by omega)
    · rw [decide_eq_false (by omega)]; rfl

theorem r13_same (hn : n ≤ 9223372036854775807) (hm : m ≤ 9223372036854775807) (hk : k ≤ 9223372036854775807) : r13.v L j l n f m g k s = r14.v L j l n f m g k s := by
  unfold r13.v r14.v
  rw [legal_same hn hm]
  cases hz : (r32.v L j l n f m g == 0) with
  | false => rfl
  | true =>
    have h := bd_ok hz hn hm
    simp only [cond_true]
    cases (k : Int) == 0 with
    | true => rfl
    | false =>
      have := laid_same (s := s) h hn hm hk (((k : Int) - 0).toNat + 1) 0 0 (Nat.zero_le _) (by omega) (by omega) (by omega)
      have e1 : out13 L (L13a.run L j l n f m g k s 0 0) = out14 L (L14a.run L j l n f m g k s 0 0) := this
      simp only [cond_false]
      cases q1 : L13a.run L j l n f m g k s 0 0 <;> cases q2 : L14a.run L j l n f m g k s 0 0 <;> rw [q1, q2] at e1 <;> exact e1

/-! ### Reach -/
theorem set_same {xs : List Bool} {i : Nat} (h : xs.getD i false = true) : xs.set i true = xs := by
  apply List.ext_getElem?
  intro t
  rw [List.getElem?_set]
  split
  · next e =>
    subst e
    rw [List.getD_eq_getElem?_getD] at h
    cases q : xs[i]? with
    | none => rw [q] at h; cases h
    | some b =>
      rw [q] at h
      have hi := (List.getElem?_eq_some_iff.1 q).1
      rw [if_pos hi]
      simp only [Option.getD_some] at h
      rw [h]
  · rfl
def o12 : L18ab.O → L12ab.O
  | .e0 x => .e0 x
theorem L12b_same (hm : m ≤ 9223372036854775807) (a : Int) : ∀ q b br, L12ab.N L j l n f m g a q b br = o12 (L18ab.N L j l n f m g a q b br) := by
  intro q
  induction q with
  | zero => intro b br; rfl
  | succ q ih =>
    intro b br
    simp only [L12ab.N, L18ab.N, free_same _ hm]
    cases decide (b < (n : Int)) with
    | false => rfl
    | true =>
      simp only [cond_true]
      cases decide (IntKind.i64.wrap (IntKind.i64.wrap (a + f b.toNat) + j) < L) with
      | false => exact ih _ _
      | true =>
        simp only [cond_true]
        cases hb : br.getD (0 + (IntKind.i64.wrap (IntKind.i64.wrap (a + f b.toNat) + j)).toNat) false with
        | false =>
          simp only [cond_false]
          cases r34.v (IntKind.i64.wrap (a + f b.toNat)) j l m g with
          | false => exact ih _ _
          | true => exact ih _ _
        | true =>
          simp only [cond_true]
          cases r34.v (IntKind.i64.wrap (a + f b.toNat)) j l m g with
          | false => exact ih _ _
          | true => simp only [cond_true]; rw [set_same hb]; exact ih _ _
def o12a : L18a.O → L12a.O
  | .e0 x y z => .e0 x y z
theorem L12a_same (hm : m ≤ 9223372036854775807) (hL : 0 ≤ L) : ∀ q v al a ar, L12a.N L j l n f m g q v al a ar = o12a (L18a.N L j l n f m g q v al a ar) := by
  intro q
  induction q with
  | zero => intro v al a ar; rfl
  | succ q ih =>
    intro v al a ar
    have e : L12ab.run L j l n f m g a 0 ar = o12 (L18ab.run L j l n f m g a 0 ar) := L12b_same hm a _ _ _
    simp only [L12a.N, L18a.N, e, show ((L.toNat : Nat) : Int) = L by omega]
    cases decide (a < L) with
    | false => rfl
    | true =>
      simp only [cond_true]
      cases ar.getD (0 + a.toNat) false with
      | false => exact ih _ _ _ _
      | true =>
        simp only [cond_true]
        cases L18ab.run L j l n f m g a 0 ar with
        | e0 x => exact ih _ _ _ _
theorem reach_same (hn : n ≤ 9223372036854775807) (hm : m ≤ 9223372036854775807) (hz : (r32.v L j l n f m g == 0) = true) : r12.v0 L j l n f m g = r18.v L j l n f m g ∧ r12.v1 L j l n f m g = 0 := by
  have h := bd_ok hz hn hm
  have h0 := h.l1
  unfold r12.v0 r12.v1 r18.v
  rw [hz]
  simp only [cond_true]
  have e : L12a.run L j l n f m g 0 [] 0 ((List.replicate L.toNat false).set 0 true) = o12a (L18a.run L j l n f m g 0 [] 0 ((List.replicate L.toNat false).set 0 true)) := by
    have := L12a_same (j := j) (l := l) (n := n) (f := f) (m := m) (g := g) hm (show 0 ≤ L by omega) ((((L.toNat : Nat) : Int) - 0).toNat + 1) 0 [] 0 ((List.replicate L.toNat false).set 0 true)
    unfold L12a.run L18a.run
    rw [this, show ((L.toNat : Nat) : Int) = L by omega]
  rw [e]
  cases L18a.run L j l n f m g 0 [] 0 ((List.replicate L.toNat false).set 0 true) with
  | e0 a b c => exact ⟨rfl, trivial⟩
end Go.Proofs.Ytjdbmmilcihpoaa

/- Plain laws: what Layout hands back. Conditions: none. -/
open Go
namespace Go.Proofs.Ytjdbmmilcihpoaa
set_option linter.unusedVariables false
set_option linter.unusedSimpArgs false
variable {L j l : Int} {n m k : Nat} {f g s : Nat → Int} {xs : List Int} {c : Nat → Bool}

/-- The layout from a position on. -/
inductive LayT (L j l : Int) (m : Nat) (g : Nat → Int) (xs : List Int) : Nat → List Int → Prop
  | last (t : Nat) (h : (t : Int) + xs.getD t 0 = L) : LayT L j l m g xs t [xs.getD t 0]
  | more (t u : Nat) (R : List Int) (hu : (u : Int) = (t : Int) + xs.getD t 0 + j) (h : (u : Int) < L) (hr : r34.v ((t : Int) + xs.getD t 0) j l m g = true) (hx : xs.getD u 0 > 0) (hR : LayT L j l m g xs u R) : LayT L j l m g xs t (xs.getD t 0 :: R)

theorem fs_first {P : Int → Bool} {f : Nat → Int} {i : Nat} (hi : i < n) (hp : P (f i) = true) (hq : ∀ i', i' < i → P (f i') = false) : fs P f 0 n = f i := by
  rcases fs_cases P f n 0 with ⟨_, a2⟩ | ⟨i2, a1, a2, a3, a4, a5⟩
  · rw [a2 i (Nat.zero_le _) (by omega)] at hp; cases hp
  · rcases Nat.lt_trichotomy i i2 with q | q | q
    · rw [a5 i (Nat.zero_le _) q] at hp; cases hp
    · rw [a3, q]
    · rw [hq i2 q] at a4; cases a4

theorem out_same (h : LOk L j l n f m g) (hm : m ≤ 9223372036854775807) (hf : FOk L j l n f m g xs) : ∀ (q q' t v v' : Nat) (al : List Int), (t : Int) < L → xs.getD t 0 > 0 → L - t < q → L - t < q' →
    ∃ w w' R, LayT L j l m g xs t R ∧ L11c.N L j xs q (t : Int) v al = .e0 w (al ++ R) ∧ L16a.N L j l n f m g (can L j l n f m g) q' (t : Int) v' al = .e0 w' (al ++ R) := by
  have hj1 := h.j1
  have hj2 := h.j2
  have hl2 := h.l2
  intro q
  induction q with
  | zero => intro q' t v v' al h1 h2 h3; omega
  | succ q ih =>
    intro q' t v v' al ht hx hq hq'
    obtain ⟨q', rfl⟩ : ∃ r, q' = r + 1 := ⟨q' - 1, by omega⟩
    rcases hf.step h ht with e | ⟨b1, b2, b3⟩
    · omega
    have ec : ∀ i, i < n → goC L j l m g (can L j l n f m g) t (f i) = goX L j l m g xs t (f i) := fun i hi => goC_goX hj1 (h.f1 i hi) ht fun t' h1 h2 => can_eq h hm hf h2
    simp only [L11c.N, L16a.N, run16, Int.toNat_natCast, Nat.zero_add]
    rw [decide_eq_true ht]
    simp only [cond_true]
    rcases L16b_run (c := can L j l n f m g) h hm (t := t) (by omega) (((n : Int) - 0).toNat + 1) 0 v' al (Nat.zero_le _) (by omega) with ⟨i, a1, a2, a3, a4, a5⟩ | ⟨a1, a2⟩
    · have es : xs.getD t 0 = f i := by
        rw [hf.val t ht]
        exact fs_first a2 (by rw [← ec i a2]; exact a3) fun i' hi' => by rw [← ec i' (by omega)]; exact a4 i' (Nat.zero_le _) hi'
      rw [a5, ← es]
      rw [i64_small (x := xs.getD t 0 + j) (by omega), i64_small (x := (t : Int) + (xs.getD t 0 + j)) (by omega)]
      by_cases e : (t : Int) + xs.getD t 0 = L
      · rw [if_pos e]
        obtain ⟨q, rfl⟩ : ∃ r, q = r + 1 := ⟨q - 1, by omega⟩
        simp only [L11c.N]
        rw [decide_eq_false (by omega)]
        exact ⟨_, _, _, .last t e, rfl, rfl⟩
      · rw [if_neg e]
        have b3' := b3
        unfold goX at b3
        rw [decide_eq_false e] at b3
        simp only [Bool.false_or, Bool.and_eq_true, decide_eq_true_eq] at b3
        obtain ⟨u, hu⟩ : ∃ u : Nat, (u : Int) = (t : Int) + xs.getD t 0 + j := ⟨((t : Int) + xs.getD t 0 + j).toNat, by omega⟩
        rw [← hu] at b3 ⊢
        rw [Int.toNat_natCast] at b3
        rw [show (t : Int) + (xs.getD t 0 + j) = (u : Int) by omega]
        obtain ⟨w, w', R, r1, r2, r3⟩ := ih q' u (v + 1) (v' + 1) (al ++ [xs.getD t 0]) b3.1 b3.2.1 (by omega) (by omega)
        refine ⟨w, w', xs.getD t 0 :: R, .more t u R hu b3.1 b3.2.2 b3.2.1 r1, ?_, ?_⟩
        · rw [r2, List.append_assoc]; rfl
        · simp only; rw [r3, List.append_assoc]; rfl
    · exfalso
      have := any_fs h hf ht
      rw [decide_eq_true hx] at this
      obtain ⟨i, hi, e⟩ := anyN_true.1 this
      rw [← ec i hi, a1 i (Nat.zero_le _) hi] at e; cases e

/-- Layout and its reference. -/
theorem layout_cases (hn : n ≤ 9223372036854775807) (hm : m ≤ 9223372036854775807) (hz : (r32.v L j l n f m g == 0) = true) :
    ∃ xs, FOk L j l n f m g xs ∧ LOk L j l n f m g ∧
      ((xs.getD 0 0 = 0 ∧ r11.v0 L j l n f m g = [] ∧ r11.v1 L j l n f m g = 9 ∧ r16.v L j l n f m g = []) ∨
       (xs.getD 0 0 > 0 ∧ ∃ R, LayT L j l m g xs 0 R ∧ r11.v0 L j l n f m g = R ∧ r11.v1 L j l n f m g = 0 ∧ r16.v L j l n f m g = R)) := by
  have h := bd_ok hz hn hm
  have hl1 := h.l1
  have hl2 := h.l2
  obtain ⟨xs, e, hf⟩ := fok h
  refine ⟨xs, hf, h, ?_⟩
  have hc := can_eq h hm hf (t := 0) (by omega)
  unfold r11.v0 r11.v1 r16.v
  rw [hz, i64_small (x := L - 1) (by omega), i64_small (x := L + 1) (by omega), e, hc]
  simp only [cond_true]
  rcases hf.step h (t := 0) (by omega) with e0 | ⟨b1, b2, b3⟩
  · rw [e0]; exact .inl ⟨rfl, rfl, rfl, rfl⟩
  · right
    obtain ⟨w, w', R, r1, r2, r3⟩ := out_same h hm hf ((L - 0).toNat + 1) ((L - 0).toNat + 1) 0 0 0 [] (by omega) (by omega) (by omega) (by omega)
    have e1 : L11c.run L j xs 0 0 [] = .e0 w R := r2
    have e2 : L16a.run L j l n f m g (can L j l n f m g) 0 0 [] = .e0 w' R := r3
    rw [show (xs.getD 0 0 == 0) = false from beq_eq_false_iff_ne.2 (by omega), decide_eq_true (show xs.getD 0 0 > 0 by omega), e1, e2]
    exact ⟨by omega, R, r1, rfl, rfl, rfl⟩
theorem LayT.ne {t : Nat} {R : List Int} (h : LayT L j l m g xs t R) : R ≠ [] := by cases h <;> simp
theorem LayT.len {t : Nat} {R : List Int} (h : LayT L j l m g xs t R) (hj : 0 ≤ j) (hn : ∀ t : Nat, (t : Int) < L → 0 ≤ xs.getD t 0) (ht : (t : Int) < L) (hx : xs.getD t 0 > 0) : (R.length : Int) + t ≤ L := by
  induction h with
  | last t h => simp only [List.length_cons, List.length_nil]; omega
  | more t u R hu h hr hx2 hR ih =>
    have := ih h hx2
    simp only [List.length_cons]
    omega
theorem reach_len (q : Nat) : ∀ (v : Nat) (al : List Int) (a : Int) (ar : List Bool) (v' : Nat) (al' : List Int) (ar' : List Bool), L18a.N L j l n f m g q v al a ar = .e0 v' al' ar' → al'.length ≤ al.length + q := by
  induction q with
  | zero => intro v al a ar v' al' ar' e; simp only [L18a.N] at e; cases e; omega
  | succ q ih =>
    intro v al a ar v' al' ar' e
    simp only [L18a.N] at e
    cases h1 : decide (a < L) with
    | false => rw [h1] at e; cases e; omega
    | true =>
      rw [h1] at e
      simp only [cond_true] at e
      cases h2 : ar.getD (0 + a.toNat) false with
      | false => rw [h2] at e; have := ih _ _ _ _ _ _ _ e; omega
      | true =>
        rw [h2] at e
        simp only [cond_true] at e
        cases h3 : L18ab.run L j l n f m g a 0 ar with
        | e0 x =>
          rw [h3] at e
          have := ih _ _ _ _ _ _ _ e
          simp only [List.length_append, List.length_cons, List.length_nil] at this
          omega
theorem r18_len (h : LOk L j l n f m g) : (r18.v L j l n f m g).length ≤ 20001 := by
  have hl1 := h.l1
  have hl2 := h.l2
  unfold r18.v
  cases e : L18a.run L j l n f m g 0 [] 0 ((List.replicate L.toNat false).set 0 true) with
  | e0 a b c =>
    have := reach_len _ _ _ _ _ _ _ _ e
    simp only [List.length_nil] at this
    show b.length ≤ 20001
    omega
theorem lens_ok (hn : n ≤ 9223372036854775807) (hm : m ≤ 9223372036854775807) (hz : (r32.v L j l n f m g == 0) = true) :
    (r11.v0 L j l n f m g).length ≤ 20001 ∧ (r16.v L j l n f m g).length ≤ 20001 ∧ (r12.v0 L j l n f m g).length ≤ 20001 ∧ (r18.v L j l n f m g).length ≤ 20001 := by
  obtain ⟨xs, hf, h, hc⟩ := layout_cases hn hm hz
  have h18 := r18_len h
  have hl1 := h.l1
  have hl2 := h.l2
  rw [(reach_same hn hm hz).1]
  refine ⟨?_, ?_, h18, h18⟩
  · rcases hc with ⟨_, e, _, _⟩ | ⟨hx, R, hR, e, _, _⟩
    · rw [e]; simp
    · rw [e]
      have := hR.len h.j1 (fun t ht => by rcases hf.step h ht with e | ⟨b, _⟩ <;> omega) (by omega) hx
      omega
  · rcases hc with ⟨_, _, _, e⟩ | ⟨hx, R, hR, _, _, e⟩
    · rw [e]; simp
    · rw [e]
      have := hR.len h.j1 (fun t ht => by rcases hf.step h ht with e | ⟨b, _⟩ <;> omega) (by omega) hx
      omega
end Go.Proofs.Ytjdbmmilcihpoaa

/- The wall without stones of the chapter's examples is valid. Conditions: none. -/
open Go
namespace Go.Proofs.Ytjdbmmilcihpoaa
set_option linter.unusedVariables false
set_option linter.unusedSimpArgs false
def tabL : List Int :=
  List.replicate 40 0 ++ [4, 4, 0, 4, 4, 0, 0, 4] ++ List.replicate 10 2 ++ [4, 0, 4, 4, 4, 0, 0] ++ List.replicate 26 1 ++ [0, 0, 0, 0, 3, 0] ++ List.replicate 26 1 ++ List.replicate 133 0
def tab : AV := .agg (tabL.map (.int .u8))
set_option maxHeartbeats 0
theorem r96 (h : AHeap) : Ret Try.prog 96 [] h tab h :=
  (interp_sound mix (c0 := fun _ _ _ => none) (fun _ _ _ _ _ h => by cases h) 300 96 [] [] tab [] (by kernel_rfl)).frame (by simp) h

def c96 : CallF := fun g args h => match Nat.beq g 96, args with
  | true, [] => some (tab, h)
  | _, _ => none
theorem c96_ok : CallOk Try.prog c96 := by
  intro g args h r h' hc
  unfold c96 at hc
  split at hc
  · rename_i hg
    cases Nat.eq_of_beq_eq_true hg
    cases hc
    exact r96 h
  · cases hc
def wallW : AV := .agg [.str (ByteArray.mk #[119]), .snil, .int .i64 0, .int .i64 0, .int .i64 0, .int .i64 5]
theorem c24w (h : AHeap) : Ret Try.prog 24 [wallW] h (.int .i64 0) h :=
  (interp_sound mix c96_ok 300 24 [wallW] [] (.int .i64 0) [] (by kernel_rfl)).frame (by simp [wallW]) h
end Go.Proofs.Ytjdbmmilcihpoaa

/- the examples of the chapter. -/
open Go
namespace Go.Proofs.Ytjdbmmilcihpoaa
set_option linter.unusedSimpArgs false
set_option linter.unusedVariables false
set_option maxHeartbeats 0
set_option maxRecDepth 100000
def noI (_ : Nat) : Int := 0
theorem nil_imp : Imp AV.snil (ivs 0 noI) := fun m Mut w v h => by cases h with | snil a => exact .sl0 _ _ _ _
theorem s11 (L j l : Int) (n : Nat) (f : Nat → Int) (hn : n ≤ 9223372036854775807) (h : AHeap) : Ret Try.prog 11 [AV.int .i64 L, .int .i64 j, .int .i64 l, ivs n f, AV.snil] h (AV.tup [(avInts IntKind.i64 (r11.v0 L j l n f 0 noI)), (AV.int IntKind.i64 (r11.v1 L j l n f 0 noI))]) h :=
  (r11 L j l n f hn 0 noI (by omega) h).imp (.cons (.refl _) (.cons (.refl _) (.cons (.refl _) (.cons (.refl _) (.cons nil_imp .nil)))))
theorem s12 (L j l : Int) (n : Nat) (f : Nat → Int) (hn : n ≤ 9223372036854775807) (h : AHeap) : Ret Try.prog 12 [AV.int .i64 L, .int .i64 j, .int .i64 l, ivs n f, AV.snil] h (AV.tup [(avInts IntKind.i64 (r12.v0 L j l n f 0 noI)), (AV.int IntKind.i64 (r12.v1 L j l n f 0 noI))]) h :=
  (r12 L j l n f hn 0 noI (by omega) h).imp (.cons (.refl _) (.cons (.refl _) (.cons (.refl _) (.cons (.refl _) (.cons nil_imp .nil)))))
theorem s13 (L j l : Int) (n : Nat) (f : Nat → Int) (hn : n ≤ 9223372036854775807) (k : Nat) (s : Nat → Int) (hk : k ≤ 9223372036854775807) (h : AHeap) : Ret Try.prog 13 [AV.int .i64 L, .int .i64 j, .int .i64 l, ivs n f, AV.snil, ivs k s] h (AV.bool (r13.v L j l n f 0 noI k s)) h :=
  (r13 L j l n f hn 0 noI (by omega) k s hk h).imp (.cons (.refl _) (.cons (.refl _) (.cons (.refl _) (.cons (.refl _) (.cons nil_imp (.cons (.refl _) .nil))))))
noncomputable def r9.v : Bool := 0 == 0
theorem r9 (h : AHeap) : Ret Try.prog 9 ([]) h (AV.bool r9.v) h := by
  exact Ret.of_run1 mix [(AV.bool r9.v)] Try.func9 rfl [.ret (AV.tup [AV.sl 1 3 fun (a : Nat) => AV.int IntKind.i64 ((r11.v0 100 10 20 3 (fun (i : Nat) => (20 :: (fun (x : List Int) => 30 :: x) ((fun (x : List Int) => 40 :: x) [])).getD i 0) 0 noI).getD a 0), AV.int IntKind.i64 0]) ([]), .ret (AV.tup [AV.sl 1 0 fun (a : Nat) => AV.int IntKind.i64 ((r11.v0 100 10 20 3 (fun (i : Nat) => (20 :: (fun (x : List Int) => 30 :: x) ((fun (x : List Int) => 40 :: x) [])).getD i 0) 1 fun (i : Nat) => [60].getD i 0).getD a 0), AV.int IntKind.i64 9]) ([]), .ret (AV.tup [AV.sl 1 2 fun (a : Nat) => AV.int IntKind.i64 ((r12.v0 60 10 0 1 (fun (i : Nat) => [20].getD i 0) 0 noI).getD a 0), AV.int IntKind.i64 0]) ([]), .b true, .b true, .b true, .ret (AV.bool (r17.v 3 (fun (i : Nat) => (r11.v0 100 10 20 3 (fun (i : Nat) => (20 :: (fun (x : List Int) => 30 :: x) ((fun (x : List Int) => 40 :: x) [])).getD i 0) 0 noI).getD i 0) 3 fun (i : Nat) => (20 :: (fun (x : List Int) => 20 :: x) ((fun (x : List Int) => 40 :: x) [])).getD i 0)) ([]), .b true, .b true, .b true, .b true, .b true, .b true, .b true, .b true, .b true, .b true, .ret (AV.bool (r17.v 2 (fun (i : Nat) => (r12.v0 60 10 0 1 (fun (i : Nat) => [20].getD i 0) 0 noI).getD i 0) 2 fun (i : Nat) => (0 :: (fun (x : List Int) => 30 :: x) []).getD i 0)) ([]), .b true, .b true, .b true, .b true, .ret (AV.bool (r13.v 100 10 20 3 (fun (i : Nat) => (20 :: (fun (x : List Int) => 30 :: x) ((fun (x : List Int) => 40 :: x) [])).getD i 0) 0 noI 3 fun (i : Nat) => (40 :: (fun (x : List Int) => 20 :: x) ((fun (x : List Int) => 20 :: x) [])).getD i 0)) ([]), .b true, .b true, .b true, .ret (AV.int IntKind.i64 0) ([]), .b true, .b true] (by simp) (by simp) (kmp (by kernel_rfl) (And.intro (s11 (100) (10) (20) (3) (fun (i : Nat) => (20 :: (fun (x : List Int) => 30 :: x) ((fun (x : List Int) => 40 :: x) [])).getD i 0) (show (3 : Nat) ≤ (9223372036854775807 : Nat) by first | decide | exact Int.NonNeg.mk _) ([])) (And.intro (r11 (100) (10) (20) (3) (fun (i : Nat) => (20 :: (fun (x : List Int) => 30 :: x) ((fun (x : List Int) => 40 :: x) [])).getD i 0) (show (3 : Nat) ≤ (9223372036854775807 : Nat) by first | decide | exact Int.NonNeg.mk _) (1) (fun (i : Nat) => [60].getD i 0) (show (1 : Nat) ≤ (9223372036854775807 : Nat) by first | decide | exact Int.NonNeg.mk _) ([])) (And.intro (s12 (60) (10) (0) (1) (fun (i : Nat) => [20].getD i 0) (show (1 : Nat) ≤ (9223372036854775807 : Nat) by first | decide | exact Int.NonNeg.mk _) ([])) (And.intro (rfl : true = true) (And.intro (rfl : true = true) (And.intro (rfl : true = true) (And.intro (r17 (3) (fun (i : Nat) => (r11.v0 100 10 20 3 (fun (i : Nat) => (20 :: (fun (x : List Int) => 30 :: x) ((fun (x : List Int) => 40 :: x) [])).getD i 0) 0 noI).getD i 0) (show (3 : Nat) ≤ (9223372036854775807 : Nat) by first | decide | exact Int.NonNeg.mk _) (3) (fun (i : Nat) => (20 :: (fun (x : List Int) => 20 :: x) ((fun (x : List Int) => 40 :: x) [])).getD i 0) (show (3 : Nat) ≤ (9223372036854775807 : Nat) by first | decide | exact Int.NonNeg.mk _) ([])) (And.intro (rfl : true = true) (And.intro (rfl : true = true) (And.intro (rfl : true = true) (And.intro (rfl : true = true) (And.intro (rfl : true = true) (And.intro (rfl : true = true) (And.intro (rfl : true = true) (And.intro (rfl : true = true) (And.intro (rfl : true = true) (And.intro (rfl : true = true) (And.intro (r17 (2) (fun (i : Nat) => (r12.v0 60 10 0 1 (fun (i : Nat) => [20].getD i 0) 0 noI).getD i 0) (show (2 : Nat) ≤ (9223372036854775807 : Nat) by first | decide | exact Int.NonNeg.mk _) (2) (fun (i : Nat) => (0 :: (fun (x : List Int) => 30 :: x) []).getD i 0) (show (2 : Nat) ≤ (9223372036854775807 : Nat) by first | decide | exact Int.NonNeg.mk _) ([])) (And.intro (rfl : true = true) (And.intro (rfl : true = true) (And.intro (rfl : true = true) (And.intro (rfl : true = true) (And.intro (s13 (100) (10) (20) (3) (fun (i : Nat) => (20 :: (fun (x : List Int) => 30 :: x) ((fun (x : List Int) => 40 :: x) [])).getD i 0) (show (3 : Nat) ≤ (9223372036854775807 : Nat) by first | decide | exact Int.NonNeg.mk _) (3) (fun (i : Nat) => (40 :: (fun (x : List Int) => 20 :: x) ((fun (x : List Int) => 20 :: x) [])).getD i 0) (show (3 : Nat) ≤ (9223372036854775807 : Nat) by first | decide | exact Int.NonNeg.mk _) ([])) (And.intro (rfl : true = true) (And.intro (rfl : true = true) (And.intro (rfl : true = true) (And.intro (c24w ([])) (And.intro (rfl : true = true) (And.intro (rfl : true = true) (And.intro (show (AV.bool (0 == 0)) = ((AV.bool r9.v)) by first | (simp only [r9.v, cond_true, cond_false]; done) | (try unfold r9.v; try rfl; done) | rfl) trivial))))))))))))))))))))))))))))))) h

end Go.Proofs.Ytjdbmmilcihpoaa

/- the wall's laws of layouts, walked. -/
open Go
namespace Go.Proofs.Ytjdbmmilcihpoaa
set_option linter.unusedSimpArgs false
set_option linter.unusedVariables false
set_option maxHeartbeats 0
set_option maxRecDepth 100000
theorem r9t (h : AHeap) : Ret Try.prog 9 ([]) h (.bool true) h := r9 h
theorem bd_ok15 {L j l : Int} {n m : Nat} {f g : Nat → Int} (h : (r15.v L j l n f m g == 0) = true) (hn : n ≤ 9223372036854775807) (hm : m ≤ 9223372036854775807) : LOk L j l n f m g := bd_ok (by rw [← legal_same hn hm]; exact h) hn hm
theorem lok15 {L j l : Int} {n m : Nat} {f g : Nat → Int} (h : (r15.v L j l n f m g == 0) = true) (hn : n ≤ 9223372036854775807) (hm : m ≤ 9223372036854775807) : LOk L j l n f m g := bd_ok15 h hn hm
theorem bd_lens {L j l : Int} {n m : Nat} {f g : Nat → Int} (h : (r15.v L j l n f m g == 0) = true) (hn : n ≤ 9223372036854775807) (hm : m ≤ 9223372036854775807) :
    (r11.v0 L j l n f m g).length ≤ 20001 ∧ (r16.v L j l n f m g).length ≤ 20001 ∧ (r12.v0 L j l n f m g).length ≤ 20001 ∧ (r18.v L j l n f m g).length ≤ 20001 := lens_ok hn hm (by rw [← legal_same hn hm]; exact h)
noncomputable def r3.v (L : Int) (j : Int) (l : Int) (n : Nat) (f : Nat → Int) (m : Nat) (g : Nat → Int) (k : Nat) (s : Nat → Int) : Bool := (bif r10.v L n m then (bif decide ((↑k : Int) > 40) then true else (bif r13.v L j l n f m g k s == r14.v L j l n f m g k s then (bif r15.v L j l n f m g == 0 then (bif (↑(r16.v L j l n f m g).length : Int) == 0 then (bif r11.v1 L j l n f m g == 9 then (bif decide ((↑(r16.v L j l n f m g).length : Int) > 0) then (bif r11.v1 L j l n f m g == 0 then (bif r17.v (r11.v0 L j l n f m g).length (fun (i : Nat) => (r11.v0 L j l n f m g).getD i 0) (r16.v L j l n f m g).length fun (i : Nat) => (r16.v L j l n f m g).getD i 0 then (bif r12.v1 L j l n f m g == 0 then r17.v (r12.v0 L j l n f m g).length (fun (i : Nat) => (r12.v0 L j l n f m g).getD i 0) (r18.v L j l n f m g).length fun (i : Nat) => (r18.v L j l n f m g).getD i 0 else false) else false) else false) else (bif r17.v (r11.v0 L j l n f m g).length (fun (i : Nat) => (r11.v0 L j l n f m g).getD i 0) (r16.v L j l n f m g).length fun (i : Nat) => (r16.v L j l n f m g).getD i 0 then (bif r12.v1 L j l n f m g == 0 then r17.v (r12.v0 L j l n f m g).length (fun (i : Nat) => (r12.v0 L j l n f m g).getD i 0) (r18.v L j l n f m g).length fun (i : Nat) => (r18.v L j l n f m g).getD i 0 else false) else false)) else false) else (bif decide ((↑(r16.v L j l n f m g).length : Int) > 0) then (bif r11.v1 L j l n f m g == 0 then (bif r17.v (r11.v0 L j l n f m g).length (fun (i : Nat) => (r11.v0 L j l n f m g).getD i 0) (r16.v L j l n f m g).length fun (i : Nat) => (r16.v L j l n f m g).getD i 0 then (bif r12.v1 L j l n f m g == 0 then r17.v (r12.v0 L j l n f m g).length (fun (i : Nat) => (r12.v0 L j l n f m g).getD i 0) (r18.v L j l n f m g).length fun (i : Nat) => (r18.v L j l n f m g).getD i 0 else false) else false) else false) else (bif r17.v (r11.v0 L j l n f m g).length (fun (i : Nat) => (r11.v0 L j l n f m g).getD i 0) (r16.v L j l n f m g).length fun (i : Nat) => (r16.v L j l n f m g).getD i 0 then (bif r12.v1 L j l n f m g == 0 then r17.v (r12.v0 L j l n f m g).length (fun (i : Nat) => (r12.v0 L j l n f m g).getD i 0) (r18.v L j l n f m g).length fun (i : Nat) => (r18.v L j l n f m g).getD i 0 else false) else false))) else (bif r11.v1 L j l n f m g == r15.v L j l n f m g then (bif r12.v1 L j l n f m g == r15.v L j l n f m g then (bif (↑(r11.v0 L j l n f m g).length : Int) == 0 then (↑(r12.v0 L j l n f m g).length : Int) == 0 else false) else false) else false)) else false)) else true)
theorem r3 (L : Int) (j : Int) (l : Int) (n : Nat) (f : Nat → Int) (hn : n ≤ 9223372036854775807) (m : Nat) (g : Nat → Int) (hm : m ≤ 9223372036854775807) (k : Nat) (s : Nat → Int) (hk : k ≤ 9223372036854775807) (h : AHeap) : Ret Try.prog 3 ([AV.int IntKind.i64 L, AV.int IntKind.i64 j, AV.int IntKind.i64 l, ivs n f, ivs m g, ivs k s]) h (AV.bool (r3.v L j l n f m g k s)) h := by
  try have := bd_lens (by first | assumption | omega) (by first | assumption | omega) (by first | assumption | omega)
  have o0 : n ≤ (9223372036854775807 : Nat) := by first | assumption | omega | (simp_all; done)
  have o1 : m ≤ (9223372036854775807 : Nat) := by first | assumption | omega | (simp_all; done)
  cases h1 : r10.v L n m with
  | true =>
    cases h2 : decide ((↑k : Int) > 40) with
    | true =>
      have h2p := of_decide_eq_true h2
      exact Ret.of_run1 mix [(AV.bool (r3.v L j l n f m g k s))] Try.func3 rfl [.ret (AV.bool true) ([]), .b false, .ret (AV.bool (r10.v L n m)) ([]), .b false, .b false, .b false, .b false, .b true] (by simp) (by simp) (kmp (by kernel_rfl) (And.intro (r9t ([])) (And.intro (rfl : false = false) (And.intro (r10 (L) (n) (f) o0 (m) (g) o1 ([])) (And.intro (show (bnot (r10.v L n m)) = false by rw [h1]; try rfl) (And.intro (show (bnot (r10.v L n m)) = false by rw [h1]; try rfl) (And.intro (show (bnot (r10.v L n m)) = false by rw [h1]; try rfl) (And.intro (show (bnot (r10.v L n m)) = false by rw [h1]; try rfl) (And.intro h2 (And.intro (show (AV.bool true) = ((AV.bool (r3.v L j l n f m g k s))) by first | (simp only [r3.v, h1, h2, cond_true, cond_false]; done) | (try unfold r3.v; try simp only [h1, cond_true, cond_false]; try simp only [h2, cond_true, cond_false]; try rfl; done) | rfl) trivial)))))))))) h
    | false =>
      have h2p := of_decide_eq_false h2
      try have := bd_lens (by first | assumption | omega) (by first | assumption | omega) (by first | assumption | omega)
      have o2 : k ≤ (9223372036854775807 : Nat) := by first | assumption | omega | (simp_all; done)
      cases h3 : r13.v L j l n f m g k s == r14.v L j l n f m g k s with
      | true =>
        cases h4 : r15.v L j l n f m g == 0 with
        | true =>
          have h4p := eq_of_beq h4
          have o3 : LOk L j l n f m g := by first | assumption | (apply lok15 <;> first | assumption | omega) | (simp_all; done)
          cases h5 : (↑(r16.v L j l n f m g).length : Int) == 0 with
          | true =>
            have h5p := eq_of_beq h5
            cases h6 : r11.v1 L j l n f m g == 9 with
            | true =>
              have h6p := eq_of_beq h6
              cases h7 : decide ((↑(r16.v L j l n f m g).length : Int) > 0) with
              | true =>
                have h7p := of_decide_eq_true h7
                cases h8 : r11.v1 L j l n f m g == 0 with
                | true =>
                  have h8p := eq_of_beq h8
                  try have := bd_lens (by first | assumption | omega) (by first | assumption | omega) (by first | assumption | omega)
                  have o4 : (r11.v0 L j l n f m g).length ≤ (9223372036854775807 : Nat) := by first | assumption | omega | (simp only [List.length_append, List.length_cons, List.length_nil, List.length_map]; omega) | (simp_all; done)
                  have o5 : (r16.v L j l n f m g).length ≤ (9223372036854775807 : Nat) := by first | assumption | omega | (simp only [List.length_append, List.length_cons, List.length_nil, List.length_map]; omega) | (simp_all; done)
                  cases h9 : r17.v (r11.v0 L j l n f m g).length (fun (i : Nat) => (r11.v0 L j l n f m g).getD i 0) (r16.v L j l n f m g).length fun (i : Nat) => (r16.v L j l n f m g).getD i 0 with
                  | true =>
                    cases h10 : r12.v1 L j l n f m g == 0 with
                    | true =>
                      have h10p := eq_of_beq h10
                      try have := bd_lens (by first | assumption | omega) (by first | assumption | omega) (by first | assumption | omega)
                      have o6 : (r12.v0 L j l n f m g).length ≤ (9223372036854775807 : Nat) := by first | assumption | omega | (simp only [List.length_append, List.length_cons, List.length_nil, List.length_map]; omega) | (simp_all; done)
                      have o7 : (r18.v L j l n f m g).length ≤ (9223372036854775807 : Nat) := by first | assumption | omega | (simp only [List.length_append, List.length_cons, List.length_nil, List.length_map]; omega) | (simp_all; done)
                      exact Ret.of_run1 mix [(AV.bool (r3.v L j l n f m g k s))] Try.func3 rfl [.ret (AV.bool true) ([]), .b false, .ret (AV.bool (r10.v L n m)) ([]), .b false, .b false, .b false, .b false, .b false, .ret (AV.tup [AV.sl 1 (r11.v0 L j l n f m g).length fun (a : Nat) => AV.int IntKind.i64 ((r11.v0 L j l n f m g).getD a 0), AV.int IntKind.i64 (r11.v1 L j l n f m g)]) ([]), .ret (AV.tup [AV.sl 1 (r12.v0 L j l n f m g).length fun (a : Nat) => AV.int IntKind.i64 ((r12.v0 L j l n f m g).getD a 0), AV.int IntKind.i64 (r12.v1 L j l n f m g)]) ([]), .ret (AV.bool (r13.v L j l n f m g k s)) ([]), .ret (AV.bool (r14.v L j l n f m g k s)) ([]), .b false, .ret (AV.int IntKind.i64 (r15.v L j l n f m g)) ([]), .b false, .ret (AV.sl 1 (r16.v L j l n f m g).length fun (a : Nat) => AV.int IntKind.i64 ((r16.v L j l n f m g).getD a 0)) ([]), .b true, .b true, .b true, .b false, .b false, .b false, .b false, .b true, .b true, .b false, .b true, .b false, .b false, .ret (AV.bool (r17.v (r11.v0 L j l n f m g).length (fun (i : Nat) => (r11.v0 L j l n f m g).getD i 0) (r16.v L j l n f m g).length fun (i : Nat) => (r16.v L j l n f m g).getD i 0)) ([]), .b true, .b true, .b true, .b true, .b true, .b true, .b true, .b true, .b true, .b true, .ret (AV.sl 1 (r18.v L j l n f m g).length fun (a : Nat) => AV.int IntKind.i64 ((r18.v L j l n f m g).getD a 0)) ([]), .b true, .ret (AV.bool (r17.v (r12.v0 L j l n f m g).length (fun (i : Nat) => (r12.v0 L j l n f m g).getD i 0) (r18.v L j l n f m g).length fun (i : Nat) => (r18.v L j l n f m g).getD i 0)) ([]), .b true] (by simp) (by simp) (kmp (by kernel_rfl) (And.intro (r9t ([])) (And.intro (rfl : false = false) (And.intro (r10 (L) (n) (f) o0 (m) (g) o1 ([])) (And.intro (show (bnot (r10.v L n m)) = false by rw [h1]; try rfl) (And.intro (show (bnot (r10.v L n m)) = false by rw [h1]; try rfl) (And.intro (show (bnot (r10.v L n m)) = false by rw [h1]; try rfl) (And.intro (show (bnot (r10.v L n m)) = false by rw [h1]; try rfl) (And.intro h2 (And.intro (r11 (L) (j) (l) (n) (f) o0 (m) (g) o1 ([])) (And.intro (r12 (L) (j) (l) (n) (f) o0 (m) (g) o1 ([])) (And.intro (r13 (L) (j) (l) (n) (f) o0 (m) (g) o1 (k) (s) o2 ([])) (And.intro (r14 (L) (j) (l) (n) (f) o0 (m) (g) o1 (k) (s) o2 ([])) (And.intro (show (bnot (r13.v L j l n f m g k s == r14.v L j l n f m g k s)) = false by rw [h3]; try rfl) (And.intro (r15 (L) (j) (l) (n) (f) o0 (m) (g) o1 ([])) (And.intro (show (bnot (r15.v L j l n f m g == 0)) = false by rw [h4]; try rfl) (And.intro (r16 (L) (j) (l) (n) (f) o0 (m) (g) o1 o3 ([])) (And.intro h5 (And.intro h5 (And.intro h5 (And.intro (show (bnot (r11.v1 L j l n f m g == 9)) = false by rw [h6]; try rfl) (And.intro (show (bnot (r11.v1 L j l n f m g == 9)) = false by rw [h6]; try rfl) (And.intro (show (bnot (r11.v1 L j l n f m g == 9)) = false by rw [h6]; try rfl) (And.intro (show (bnot (r11.v1 L j l n f m g == 9)) = false by rw [h6]; try rfl) (And.intro h7 (And.intro h7 (And.intro (show (bnot (r11.v1 L j l n f m g == 9)) = false by rw [h6]; try rfl) (And.intro h7 (And.intro (show (bnot (r11.v1 L j l n f m g == 9)) = false by rw [h6]; try rfl) (And.intro (show (bnot (r11.v1 L j l n f m g == 0)) = false by rw [h8]; try rfl) (And.intro (r17 ((r11.v0 L j l n f m g).length) (fun (i : Nat) => (r11.v0 L j l n f m g).getD i 0) o4 ((r16.v L j l n f m g).length) (fun (i : Nat) => (r16.v L j l n f m g).getD i 0) o5 ([])) (And.intro h9 (And.intro h9 (And.intro h9 (And.intro h10 (And.intro h10 (And.intro h10 (And.intro h10 (And.intro h10 (And.intro h10 (And.intro h10 (And.intro (r18 (L) (j) (l) (n) (f) o0 (m) (g) o1 o3 ([])) (And.intro h10 (And.intro (r17 ((r12.v0 L j l n f m g).length) (fun (i : Nat) => (r12.v0 L j l n f m g).getD i 0) o6 ((r18.v L j l n f m g).length) (fun (i : Nat) => (r18.v L j l n f m g).getD i 0) o7 ([])) (And.intro h10 (And.intro (show (AV.bool (r17.v (r12.v0 L j l n f m g).length (fun (i : Nat) => (r12.v0 L j l n f m g).getD i 0) (r18.v L j l n f m g).length fun (i : Nat) => (r18.v L j l n f m g).getD i 0)) = ((AV.bool (r3.v L j l n f m g k s))) by first | (simp only [r3.v, h1, h2, h3, h4, h5, h6, h7, h8, h9, h10, cond_true, cond_false]; done) | (try unfold r3.v; try simp only [h1, cond_true, cond_false]; try simp only [h2, cond_true, cond_false]; try simp only [h3, cond_true, cond_false]; try simp only [h4, cond_true, cond_false]; try simp only [h5, cond_true, cond_false]; try simp only [h6, cond_true, cond_false]; try simp only [h7, cond_true, cond_false]; try simp only [h8, cond_true, cond_false]; try simp only [h9, cond_true, cond_false]; try simp only [h10, cond_true, cond_false]; try rfl; done) | rfl) trivial)))))))))))))))))))))))))))))))))))))))))))))) h
                    | false =>
                      have h10p := ne_of_beq_false h10
                      exact Ret.of_run1 mix [(AV.bool (r3.v L j l n f m g k s))] Try.func3 rfl [.ret (AV.bool true) ([]), .b false, .ret (AV.bool (r10.v L n m)) ([]), .b false, .b false, .b false, .b false, .b false, .ret (AV.tup [AV.sl 1 (r11.v0 L j l n f m g).length fun (a : Nat) => AV.int IntKind.i64 ((r11.v0 L j l n f m g).getD a 0), AV.int IntKind.i64 (r11.v1 L j l n f m g)]) ([]), .ret (AV.tup [AV.sl 1 (r12.v0 L j l n f m g).length fun (a : Nat) => AV.int IntKind.i64 ((r12.v0 L j l n f m g).getD a 0), AV.int IntKind.i64 (r12.v1 L j l n f m g)]) ([]), .ret (AV.bool (r13.v L j l n f m g k s)) ([]), .ret (AV.bool (r14.v L j l n f m g k s)) ([]), .b false, .ret (AV.int IntKind.i64 (r15.v L j l n f m g)) ([]), .b false, .ret (AV.sl 1 (r16.v L j l n f m g).length fun (a : Nat) => AV.int IntKind.i64 ((r16.v L j l n f m g).getD a 0)) ([]), .b true, .b true, .b true, .b false, .b false, .b false, .b false, .b true, .b true, .b false, .b true, .b false, .b false, .ret (AV.bool (r17.v (r11.v0 L j l n f m g).length (fun (i : Nat) => (r11.v0 L j l n f m g).getD i 0) (r16.v L j l n f m g).length fun (i : Nat) => (r16.v L j l n f m g).getD i 0)) ([]), .b true, .b true, .b true, .b false, .b false, .b false, .b false, .b false, .b false, .b false, .b false, .b false] (by simp) (by simp) (kmp (by kernel_rfl) (And.intro (r9t ([])) (And.intro (rfl : false = false) (And.intro (r10 (L) (n) (f) o0 (m) (g) o1 ([])) (And.intro (show (bnot (r10.v L n m)) = false by rw [h1]; try rfl) (And.intro (show (bnot (r10.v L n m)) = false by rw [h1]; try rfl) (And.intro (show (bnot (r10.v L n m)) = false by rw [h1]; try rfl) (And.intro (show (bnot (r10.v L n m)) = false by rw [h1]; try rfl) (And.intro h2 (And.intro (r11 (L) (j) (l) (n) (f) o0 (m) (g) o1 ([])) (And.intro (r12 (L) (j) (l) (n) (f) o0 (m) (g) o1 ([])) (And.intro (r13 (L) (j) (l) (n) (f) o0 (m) (g) o1 (k) (s) o2 ([])) (And.intro (r14 (L) (j) (l) (n) (f) o0 (m) (g) o1 (k) (s) o2 ([])) (And.intro (show (bnot (r13.v L j l n f m g k s == r14.v L j l n f m g k s)) = false by rw [h3]; try rfl) (And.intro (r15 (L) (j) (l) (n) (f) o0 (m) (g) o1 ([])) (And.intro (show (bnot (r15.v L j l n f m g == 0)) = false by rw [h4]; try rfl) (And.intro (r16 (L) (j) (l) (n) (f) o0 (m) (g) o1 o3 ([])) (And.intro h5 (And.intro h5 (And.intro h5 (And.intro (show (bnot (r11.v1 L j l n f m g == 9)) = false by rw [h6]; try rfl) (And.intro (show (bnot (r11.v1 L j l n f m g == 9)) = false by rw [h6]; try rfl) (And.intro (show (bnot (r11.v1 L j l n f m g == 9)) = false by rw [h6]; try rfl) (And.intro (show (bnot (r11.v1 L j l n f m g == 9)) = false by rw [h6]; try rfl) (And.intro h7 (And.intro h7 (And.intro (show (bnot (r11.v1 L j l n f m g == 9)) = false by rw [h6]; try rfl) (And.intro h7 (And.intro (show (bnot (r11.v1 L j l n f m g == 9)) = false by rw [h6]; try rfl) (And.intro (show (bnot (r11.v1 L j l n f m g == 0)) = false by rw [h8]; try rfl) (And.intro (r17 ((r11.v0 L j l n f m g).length) (fun (i : Nat) => (r11.v0 L j l n f m g).getD i 0) o4 ((r16.v L j l n f m g).length) (fun (i : Nat) => (r16.v L j l n f m g).getD i 0) o5 ([])) (And.intro h9 (And.intro h9 (And.intro h9 (And.intro h10 (And.intro h10 (And.intro h10 (And.intro h10 (And.intro h10 (And.intro h10 (And.intro h10 (And.intro h10 (And.intro h10 (And.intro (show (AV.bool false) = ((AV.bool (r3.v L j l n f m g k s))) by first | (simp only [r3.v, h1, h2, h3, h4, h5, h6, h7, h8, h9, h10, cond_true, cond_false]; done) | (try unfold r3.v; try simp only [h1, cond_true, cond_false]; try simp only [h2, cond_true, cond_false]; try simp only [h3, cond_true, cond_false]; try simp only [h4, cond_true, cond_false]; try simp only [h5, cond_true, cond_false]; try simp only [h6, cond_true, cond_false]; try simp only [h7, cond_true, cond_false]; try simp only [h8, cond_true, cond_false]; try simp only [h9, cond_true, cond_false]; try simp only [h10, cond_true, cond_false]; try rfl; done) | rfl) trivial)))))))))))))))))))))))))))))))))))))))))))) h
                  | false =>
                    exact Ret.of_run1 mix [(AV.bool (r3.v L j l n f m g k s))] Try.func3 rfl [.ret (AV.bool true) ([]), .b false, .ret (AV.bool (r10.v L n m)) ([]), .b false, .b false, .b false, .b false, .b false, .ret (AV.tup [AV.sl 1 (r11.v0 L j l n f m g).length fun (a : Nat) => AV.int IntKind.i64 ((r11.v0 L j l n f m g).getD a 0), AV.int IntKind.i64 (r11.v1 L j l n f m g)]) ([]), .ret (AV.tup [AV.sl 1 (r12.v0 L j l n f m g).length fun (a : Nat) => AV.int IntKind.i64 ((r12.v0 L j l n f m g).getD a 0), AV.int IntKind.i64 (r12.v1 L j l n f m g)]) ([]), .ret (AV.bool (r13.v L j l n f m g k s)) ([]), .ret (AV.bool (r14.v L j l n f m g k s)) ([]), .b false, .ret (AV.int IntKind.i64 (r15.v L j l n f m g)) ([]), .b false, .ret (AV.sl 1 (r16.v L j l n f m g).length fun (a : Nat) => AV.int IntKind.i64 ((r16.v L j l n f m g).getD a 0)) ([]), .b true, .b true, .b true, .b false, .b false, .b false, .b false, .b true, .b true, .b false, .b true, .b false, .b false, .ret (AV.bool (r17.v (r11.v0 L j l n f m g).length (fun (i : Nat) => (r11.v0 L j l n f m g).getD i 0) (r16.v L j l n f m g).length fun (i : Nat) => (r16.v L j l n f m g).getD i 0)) ([]), .b false, .b false, .b false, .b false, .b false, .b false, .b false, .b false, .b false, .b false, .b false, .b false] (by simp) (by simp) (kmp (by kernel_rfl) (And.intro (r9t ([])) (And.intro (rfl : false = false) (And.intro (r10 (L) (n) (f) o0 (m) (g) o1 ([])) (And.intro (show (bnot (r10.v L n m)) = false by rw [h1]; try rfl) (And.intro (show (bnot (r10.v L n m)) = false by rw [h1]; try rfl) (And.intro (show (bnot (r10.v L n m)) = false by rw [h1]; try rfl) (And.intro (show (bnot (r10.v L n m)) = false by rw [h1]; try rfl) (And.intro h2 (And.intro (r11 (L) (j) (l) (n) (f) o0 (m) (g) o1 ([])) (And.intro (r12 (L) (j) (l) (n) (f) o0 (m) (g) o1 ([])) (And.intro (r13 (L) (j) (l) (n) (f) o0 (m) (g) o1 (k) (s) o2 ([])) (And.intro (r14 (L) (j) (l) (n) (f) o0 (m) (g) o1 (k) (s) o2 ([])) (And.intro (show (bnot (r13.v L j l n f m g k s == r14.v L j l n f m g k s)) = false by rw [h3]; try rfl) (And.intro (r15 (L) (j) (l) (n) (f) o0 (m) (g) o1 ([])) (And.intro (show (bnot (r15.v L j l n f m g == 0)) = false by rw [h4]; try rfl) (And.intro (r16 (L) (j) (l) (n) (f) o0 (m) (g) o1 o3 ([])) (And.intro h5 (And.intro h5 (And.intro h5 (And.intro (show (bnot (r11.v1 L j l n f m g == 9)) = false by rw [h6]; try rfl) (And.intro (show (bnot (r11.v1 L j l n f m g == 9)) = false by rw [h6]; try rfl) (And.intro (show (bnot (r11.v1 L j l n f m g == 9)) = false by rw [h6]; try rfl) (And.intro (show (bnot (r11.v1 L j l n f m g == 9)) = false by rw [h6]; try rfl) (And.intro h7 (And.intro h7 (And.intro (show (bnot (r11.v1 L j l n f m g == 9)) = false by rw [h6]; try rfl) (And.intro h7 (And.intro (show (bnot (r11.v1 L j l n f m g == 9)) = false by rw [h6]; try rfl) (And.intro (show (bnot (r11.v1 L j l n f m g == 0)) = false by rw [h8]; try rfl) (And.intro (r17 ((r11.v0 L j l n f m g).length) (fun (i : Nat) => (r11.v0 L j l n f m g).getD i 0) o4 ((r16.v L j l n f m g).length) (fun (i : Nat) => (r16.v L j l n f m g).getD i 0) o5 ([])) (And.intro h9 (And.intro h9 (And.intro h9 (And.intro (rfl : false = false) (And.intro (rfl : false = false) (And.intro (rfl : false = false) (And.intro (rfl : false = false) (And.intro (rfl : false = false) (And.intro (rfl : false = false) (And.intro (rfl : false = false) (And.intro (rfl : false = false) (And.intro (rfl : false = false) (And.intro (show (AV.bool false) = ((AV.bool (r3.v L j l n f m g k s))) by first | (simp only [r3.v, h1, h2, h3, h4, h5, h6, h7, h8, h9, cond_true, cond_false]; done) | (try unfold r3.v; try simp only [h1, cond_true, cond_false]; try simp only [h2, cond_true, cond_false]; try simp only [h3, cond_true, cond_false]; try simp only [h4, cond_true, cond_false]; try simp only [h5, cond_true, cond_false]; try simp only [h6, cond_true, cond_false]; try simp only [h7, cond_true, cond_false]; try simp only [h8, cond_true, cond_false]; try simp only [h9, cond_true, cond_false]; try rfl; done) | rfl) trivial)))))))))))))))))))))))))))))))))))))))))))) h
                | false =>
                  have h8p := ne_of_beq_false h8
                  exact Ret.of_run1 mix [(AV.bool (r3.v L j l n f m g k s))] Try.func3 rfl [.ret (AV.bool true) ([]), .b false, .ret (AV.bool (r10.v L n m)) ([]), .b false, .b false, .b false, .b false, .b false, .ret (AV.tup [AV.sl 1 (r11.v0 L j l n f m g).length fun (a : Nat) => AV.int IntKind.i64 ((r11.v0 L j l n f m g).getD a 0), AV.int IntKind.i64 (r11.v1 L j l n f m g)]) ([]), .ret (AV.tup [AV.sl 1 (r12.v0 L j l n f m g).length fun (a : Nat) => AV.int IntKind.i64 ((r12.v0 L j l n f m g).getD a 0), AV.int IntKind.i64 (r12.v1 L j l n f m g)]) ([]), .ret (AV.bool (r13.v L j l n f m g k s)) ([]), .ret (AV.bool (r14.v L j l n f m g k s)) ([]), .b false, .ret (AV.int IntKind.i64 (r15.v L j l n f m g)) ([]), .b false, .ret (AV.sl 1 (r16.v L j l n f m g).length fun (a : Nat) => AV.int IntKind.i64 ((r16.v L j l n f m g).getD a 0)) ([]), .b true, .b true, .b true, .b false, .b false, .b false, .b false, .b true, .b true, .b false, .b true, .b false, .b true] (by simp) (by simp) (kmp (by kernel_rfl) (And.intro (r9t ([])) (And.intro (rfl : false = false) (And.intro (r10 (L) (n) (f) o0 (m) (g) o1 ([])) (And.intro (show (bnot (r10.v L n m)) = false by rw [h1]; try rfl) (And.intro (show (bnot (r10.v L n m)) = false by rw [h1]; try rfl) (And.intro (show (bnot (r10.v L n m)) = false by rw [h1]; try rfl) (And.intro (show (bnot (r10.v L n m)) = false by rw [h1]; try rfl) (And.intro h2 (And.intro (r11 (L) (j) (l) (n) (f) o0 (m) (g) o1 ([])) (And.intro (r12 (L) (j) (l) (n) (f) o0 (m) (g) o1 ([])) (And.intro (r13 (L) (j) (l) (n) (f) o0 (m) (g) o1 (k) (s) o2 ([])) (And.intro (r14 (L) (j) (l) (n) (f) o0 (m) (g) o1 (k) (s) o2 ([])) (And.intro (show (bnot (r13.v L j l n f m g k s == r14.v L j l n f m g k s)) = false by rw [h3]; try rfl) (And.intro (r15 (L) (j) (l) (n) (f) o0 (m) (g) o1 ([])) (And.intro (show (bnot (r15.v L j l n f m g == 0)) = false by rw [h4]; try rfl) (And.intro (r16 (L) (j) (l) (n) (f) o0 (m) (g) o1 o3 ([])) (And.intro h5 (And.intro h5 (And.intro h5 (And.intro (show (bnot (r11.v1 L j l n f m g == 9)) = false by rw [h6]; try rfl) (And.intro (show (bnot (r11.v1 L j l n f m g == 9)) = false by rw [h6]; try rfl) (And.intro (show (bnot (r11.v1 L j l n f m g == 9)) = false by rw [h6]; try rfl) (And.intro (show (bnot (r11.v1 L j l n f m g == 9)) = false by rw [h6]; try rfl) (And.intro h7 (And.intro h7 (And.intro (show (bnot (r11.v1 L j l n f m g == 9)) = false by rw [h6]; try rfl) (And.intro h7 (And.intro (show (bnot (r11.v1 L j l n f m g == 9)) = false by rw [h6]; try rfl) (And.intro (show (bnot (r11.v1 L j l n f m g == 0)) = true by rw [h8]; try rfl) (And.intro (show (AV.bool false) = ((AV.bool (r3.v L j l n f m g k s))) by first | (simp only [r3.v, h1, h2, h3, h4, h5, h6, h7, h8, cond_true, cond_false]; done) | (try unfold r3.v; try simp only [h1, cond_true, cond_false]; try simp only [h2, cond_true, cond_false]; try simp only [h3, cond_true, cond_false]; try simp only [h4, cond_true, cond_false]; try simp only [h5, cond_true, cond_false]; try simp only [h6, cond_true, cond_false]; try simp only [h7, cond_true, cond_false]; try simp only [h8, cond_true, cond_false]; try rfl; done) | rfl) trivial))))))))))))))))))))))))))))))) h
              | false =>
                have h7p := of_decide_eq_false h7
                try have := bd_lens (by first | assumption | omega) (by first | assumption | omega) (by first | assumption | omega)
                have o4 : (r11.v0 L j l n f m g).length ≤ (9223372036854775807 : Nat) := by first | assumption | omega | (simp only [List.length_append, List.length_cons, List.length_nil, List.length_map]; omega) | (simp_all; done)
                have o5 : (r16.v L j l n f m g).length ≤ (9223372036854775807 : Nat) := by first | assumption | omega | (simp only [List.length_append, List.length_cons, List.length_nil, List.length_map]; omega) | (simp_all; done)
                cases h8 : r17.v (r11.v0 L j l n f m g).length (fun (i : Nat) => (r11.v0 L j l n f m g).getD i 0) (r16.v L j l n f m g).length fun (i : Nat) => (r16.v L j l n f m g).getD i 0 with
                | true =>
                  cases h9 : r12.v1 L j l n f m g == 0 with
                  | true =>
                    have h9p := eq_of_beq h9
                    try have := bd_lens (by first | assumption | omega) (by first | assumption | omega) (by first | assumption | omega)
                    have o6 : (r12.v0 L j l n f m g).length ≤ (9223372036854775807 : Nat) := by first | assumption | omega | (simp only [List.length_append, List.length_cons, List.length_nil, List.length_map]; omega) | (simp_all; done)
                    have o7 : (r18.v L j l n f m g).length ≤ (9223372036854775807 : Nat) := by first | assumption | omega | (simp only [List.length_append, List.length_cons, List.length_nil, List.length_map]; omega) | (simp_all; done)
                    exact Ret.of_run1 mix [(AV.bool (r3.v L j l n f m g k s))] Try.func3 rfl [.ret (AV.bool true) ([]), .b false, .ret (AV.bool (r10.v L n m)) ([]), .b false, .b false, .b false, .b false, .b false, .ret (AV.tup [AV.sl 1 (r11.v0 L j l n f m g).length fun (a : Nat) => AV.int IntKind.i64 ((r11.v0 L j l n f m g).getD a 0), AV.int IntKind.i64 (r11.v1 L j l n f m g)]) ([]), .ret (AV.tup [AV.sl 1 (r12.v0 L j l n f m g).length fun (a : Nat) => AV.int IntKind.i64 ((r12.v0 L j l n f m g).getD a 0), AV.int IntKind.i64 (r12.v1 L j l n f m g)]) ([]), .ret (AV.bool (r13.v L j l n f m g k s)) ([]), .ret (AV.bool (r14.v L j l n f m g k s)) ([]), .b false, .ret (AV.int IntKind.i64 (r15.v L j l n f m g)) ([]), .b false, .ret (AV.sl 1 (r16.v L j l n f m g).length fun (a : Nat) => AV.int IntKind.i64 ((r16.v L j l n f m g).getD a 0)) ([]), .b true, .b true, .b true, .b false, .b false, .b false, .b false, .b false, .b false, .b false, .b false, .b false, .b false, .ret (AV.bool (r17.v (r11.v0 L j l n f m g).length (fun (i : Nat) => (r11.v0 L j l n f m g).getD i 0) (r16.v L j l n f m g).length fun (i : Nat) => (r16.v L j l n f m g).getD i 0)) ([]), .b true, .b true, .b true, .b true, .b true, .b true, .b true, .b true, .b true, .b true, .ret (AV.sl 1 (r18.v L j l n f m g).length fun (a : Nat) => AV.int IntKind.i64 ((r18.v L j l n f m g).getD a 0)) ([]), .b true, .ret (AV.bool (r17.v (r12.v0 L j l n f m g).length (fun (i : Nat) => (r12.v0 L j l n f m g).getD i 0) (r18.v L j l n f m g).length fun (i : Nat) => (r18.v L j l n f m g).getD i 0)) ([]), .b true] (by simp) (by simp) (kmp (by kernel_rfl) (And.intro (r9t ([])) (And.intro (rfl : false = false) (And.intro (r10 (L) (n) (f) o0 (m) (g) o1 ([])) (And.intro (show (bnot (r10.v L n m)) = false by rw [h1]; try rfl) (And.intro (show (bnot (r10.v L n m)) = false by rw [h1]; try rfl) (And.intro (show (bnot (r10.v L n m)) = false by rw [h1]; try rfl) (And.intro (show (bnot (r10.v L n m)) = false by rw [h1]; try rfl) (And.intro h2 (And.intro (r11 (L) (j) (l) (n) (f) o0 (m) (g) o1 ([])) (And.intro (r12 (L) (j) (l) (n) (f) o0 (m) (g) o1 ([])) (And.intro (r13 (L) (j) (l) (n) (f) o0 (m) (g) o1 (k) (s) o2 ([])) (And.intro (r14 (L) (j) (l) (n) (f) o0 (m) (g) o1 (k) (s) o2 ([])) (And.intro (show (bnot (r13.v L j l n f m g k s == r14.v L j l n f m g k s)) = false by rw [h3]; try rfl) (And.intro (r15 (L) (j) (l) (n) (f) o0 (m) (g) o1 ([])) (And.intro (show (bnot (r15.v L j l n f m g == 0)) = false by rw [h4]; try rfl) (And.intro (r16 (L) (j) (l) (n) (f) o0 (m) (g) o1 o3 ([])) (And.intro h5 (And.intro h5 (And.intro h5 (And.intro (show (bnot (r11.v1 L j l n f m g == 9)) = false by rw [h6]; try rfl) (And.intro (show (bnot (r11.v1 L j l n f m g == 9)) = false by rw [h6]; try rfl) (And.intro (show (bnot (r11.v1 L j l n f m g == 9)) = false by rw [h6]; try rfl) (And.intro (show (bnot (r11.v1 L j l n f m g == 9)) = false by rw [h6]; try rfl) (And.intro h7 (And.intro h7 (And.intro (show (bnot (r11.v1 L j l n f m g == 9)) = false by rw [h6]; try rfl) (And.intro h7 (And.intro (show (bnot (r11.v1 L j l n f m g == 9)) = false by rw [h6]; try rfl) (And.intro (rfl : false = false) (And.intro (r17 ((r11.v0 L j l n f m g).length) (fun (i : Nat) => (r11.v0 L j l n f m g).getD i 0) o4 ((r16.v L j l n f m g).length) (fun (i : Nat) => (r16.v L j l n f m g).getD i 0) o5 ([])) (And.intro h8 (And.intro h8 (And.intro h8 (And.intro h9 (And.intro h9 (And.intro h9 (And.intro h9 (And.intro h9 (And.intro h9 (And.intro h9 (And.intro (r18 (L) (j) (l) (n) (f) o0 (m) (g) o1 o3 ([])) (And.intro h9 (And.intro (r17 ((r12.v0 L j l n f m g).length) (fun (i : Nat) => (r12.v0 L j l n f m g).getD i 0) o6 ((r18.v L j l n f m g).length) (fun (i : Nat) => (r18.v L j l n f m g).getD i 0) o7 ([])) (And.intro h9 (And.intro (show (AV.bool (r17.v (r12.v0 L j l n f m g).length (fun (i : Nat) => (r12.v0 L j l n f m g).getD i 0) (r18.v L j l n f m g).length fun (i : Nat) => (r18.v L j l n f m g).getD i 0)) = ((AV.bool (r3.v L j l n f m g k s))) by first | (simp only [r3.v, h1, h2, h3, h4, h5, h6, h7, h8, h9, cond_true, cond_false]; done) | (try unfold r3.v; try simp only [h1, cond_true, cond_false]; try simp only [h2, cond_true, cond_false]; try simp only [h3, cond_true, cond_false]; try simp only [h4, cond_true, cond_false]; try simp only [h5, cond_true, cond_false]; try simp only [h6, cond_true, cond_false]; try simp only [h7, cond_true, cond_false]; try simp only [h8, cond_true, cond_false]; try simp only [h9, cond_true, cond_false]; try rfl; done) | rfl) trivial)))))))))))))))))))))))))))))))))))))))))))))) h
                  | false =>
                    have h9p := ne_of_beq_false h9
                    exact Ret.of_run1 mix [(AV.bool (r3.v L j l n f m g k s))] Try.func3 rfl [.ret (AV.bool true) ([]), .b false, .ret (AV.bool (r10.v L n m)) ([]), .b false, .b false, .b false, .b false, .b false, .ret (AV.tup [AV.sl 1 (r11.v0 L j l n f m g).length fun (a : Nat) => AV.int IntKind.i64 ((r11.v0 L j l n f m g).getD a 0), AV.int IntKind.i64 (r11.v1 L j l n f m g)]) ([]), .ret (AV.tup [AV.sl 1 (r12.v0 L j l n f m g).length fun (a : Nat) => AV.int IntKind.i64 ((r12.v0 L j l n f m g).getD a 0), AV.int IntKind.i64 (r12.v1 L j l n f m g)]) ([]), .ret (AV.bool (r13.v L j l n f m g k s)) ([]), .ret (AV.bool (r14.v L j l n f m g k s)) ([]), .b false, .ret (AV.int IntKind.i64 (r15.v L j l n f m g)) ([]), .b false, .ret (AV.sl 1 (r16.v L j l n f m g).length fun (a : Nat) => AV.int IntKind.i64 ((r16.v L j l n f m g).getD a 0)) ([]), .b true, .b true, .b true, .b false, .b false, .b false, .b false, .b false, .b false, .b false, .b false, .b false, .b false, .ret (AV.bool (r17.v (r11.v0 L j l n f m g).length (fun (i : Nat) => (r11.v0 L j l n f m g).getD i 0) (r16.v L j l n f m g).length fun (i : Nat) => (r16.v L j l n f m g).getD i 0)) ([]), .b true, .b true, .b true, .b false, .b false, .b false, .b false, .b false, .b false, .b false, .b false, .b false] (by simp) (by simp) (kmp (by kernel_rfl) (And.intro (r9t ([])) (And.intro (rfl : false = false) (And.intro (r10 (L) (n) (f) o0 (m) (g) o1 ([])) (And.intro (show (bnot (r10.v L n m)) = false by rw [h1]; try rfl) (And.intro (show (bnot (r10.v L n m)) = false by rw [h1]; try rfl) (And.intro (show (bnot (r10.v L n m)) = false by rw [h1]; try rfl) (And.intro (show (bnot (r10.v L n m)) = false by rw [h1]; try rfl) (And.intro h2 (And.intro (r11 (L) (j) (l) (n) (f) o0 (m) (g) o1 ([])) (And.intro (r12 (L) (j) (l) (n) (f) o0 (m) (g) o1 ([])) (And.intro (r13 (L) (j) (l) (n) (f) o0 (m) (g) o1 (k) (s) o2 ([])) (And.intro (r14 (L) (j) (l) (n) (f) o0 (m) (g) o1 (k) (s) o2 ([])) (And.intro (show (bnot (r13.v L j l n f m g k s == r14.v L j l n f m g k s)) = false by rw [h3]; try rfl) (And.intro (r15 (L) (j) (l) (n) (f) o0 (m) (g) o1 ([])) (And.intro (show (bnot (r15.v L j l n f m g == 0)) = false by rw [h4]; try rfl) (And.intro (r16 (L) (j) (l) (n) (f) o0 (m) (g) o1 o3 ([])) (And.intro h5 (And.intro h5 (And.intro h5 (And.intro (show (bnot (r11.v1 L j l n f m g == 9)) = false by rw [h6]; try rfl) (And.intro (show (bnot (r11.v1 L j l n f m g == 9)) = false by rw [h6]; try rfl) (And.intro (show (bnot (r11.v1 L j l n f m g == 9)) = false by rw [h6]; try rfl) (And.intro (show (bnot (r11.v1 L j l n f m g == 9)) = false by rw [h6]; try rfl) (And.intro h7 (And.intro h7 (And.intro (show (bnot (r11.v1 L j l n f m g == 9)) = false by rw [h6]; try rfl) (And.intro h7 (And.intro (show (bnot (r11.v1 L j l n f m g == 9)) = false by rw [h6]; try rfl) (And.intro (rfl : false = false) (And.intro (r17 ((r11.v0 L j l n f m g).length) (fun (i : Nat) => (r11.v0 L j l n f m g).getD i 0) o4 ((r16.v L j l n f m g).length) (fun (i : Nat) => (r16.v L j l n f m g).getD i 0) o5 ([])) (And.intro h8 (And.intro h8 (And.intro h8 (And.intro h9 (And.intro h9 (And.intro h9 (And.intro h9 (And.intro h9 (And.intro h9 (And.intro h9 (And.intro h9 (And.intro h9 (And.intro (show (AV.bool false) = ((AV.bool (r3.v L j l n f m g k s))) by first | (simp only [r3.v, h1, h2, h3, h4, h5, h6, h7, h8, h9, cond_true, cond_false]; done) | (try unfold r3.v; try simp only [h1, cond_true, cond_false]; try simp only [h2, cond_true, cond_false]; try simp only [h3, cond_true, cond_false]; try simp only [h4, cond_true, cond_false]; try simp only [h5, cond_true, cond_false]; try simp only [h6, cond_true, cond_false]; try simp only [h7, cond_true, cond_false]; try simp only [h8, cond_true, cond_false]; try simp only [h9, cond_true, cond_false]; try rfl; done) | rfl) trivial)))))))))))))))))))))))))))))))))))))))))))) h
                | false =>
                  exact Ret.of_run1 mix [(AV.bool (r3.v L j l n f m g k s))] Try.func3 rfl [.ret (AV.bool true) ([]), .b false, .ret (AV.bool (r10.v L n m)) ([]), .b false, .b false, .b false, .b false, .b false, .ret (AV.tup [AV.sl 1 (r11.v0 L j l n f m g).length fun (a : Nat) => AV.int IntKind.i64 ((r11.v0 L j l n f m g).getD a 0), AV.int IntKind.i64 (r11.v1 L j l n f m g)]) ([]), .ret (AV.tup [AV.sl 1 (r12.v0 L j l n f m g).length fun (a : Nat) => AV.int IntKind.i64 ((r12.v0 L j l n f m g).getD a 0), AV.int IntKind.i64 (r12.v1 L j l n f m g)]) ([]), .ret (AV.bool (r13.v L j l n f m g k s)) ([]), .ret (AV.bool (r14.v L j l n f m g k s)) ([]), .b false, .ret (AV.int IntKind.i64 (r15.v L j l n f m g)) ([]), .b false, .ret (AV.sl 1 (r16.v L j l n f m g).length fun (a : Nat) => AV.int IntKind.i64 ((r16.v L j l n f m g).getD a 0)) ([]), .b true, .b true, .b true, .b false, .b false, .b false, .b false, .b false, .b false, .b false, .b false, .b false, .b false, .ret (AV.bool (r17.v (r11.v0 L j l n f m g).length (fun (i : Nat) => (r11.v0 L j l n f m g).getD i 0) (r16.v L j l n f m g).length fun (i : Nat) => (r16.v L j l n f m g).getD i 0)) ([]), .b false, .b false, .b false, .b false, .b false, .b false, .b false, .b false, .b false, .b false, .b false, .b false] (by simp) (by simp) (kmp (by kernel_rfl) (And.intro (r9t ([])) (And.intro (rfl : false = false) (And.intro (r10 (L) (n) (f) o0 (m) (g) o1 ([])) (And.intro (show (bnot (r10.v L n m)) = false by rw [h1]; try rfl) (And.intro (show (bnot (r10.v L n m)) = false by rw [h1]; try rfl) (And.intro (show (bnot (r10.v L n m)) = false by rw [h1]; try rfl) (And.intro (show (bnot (r10.v L n m)) = false by rw [h1]; try rfl) (And.intro h2 (And.intro (r11 (L) (j) (l) (n) (f) o0 (m) (g) o1 ([])) (And.intro (r12 (L) (j) (l) (n) (f) o0 (m) (g) o1 ([])) (And.intro (r13 (L) (j) (l) (n) (f) o0 (m) (g) o1 (k) (s) o2 ([])) (And.intro (r14 (L) (j) (l) (n) (f) o0 (m) (g) o1 (k) (s) o2 ([])) (And.intro (show (bnot (r13.v L j l n f m g k s == r14.v L j l n f m g k s)) = false by rw [h3]; try rfl) (And.intro (r15 (L) (j) (l) (n) (f) o0 (m) (g) o1 ([])) (And.intro (show (bnot (r15.v L j l n f m g == 0)) = false by rw [h4]; try rfl) (And.intro (r16 (L) (j) (l) (n) (f) o0 (m) (g) o1 o3 ([])) (And.intro h5 (And.intro h5 (And.intro h5 (And.intro (show (bnot (r11.v1 L j l n f m g == 9)) = false by rw [h6]; try rfl) (And.intro (show (bnot (r11.v1 L j l n f m g == 9)) = false by rw [h6]; try rfl) (And.intro (show (bnot (r11.v1 L j l n f m g == 9)) = false by rw [h6]; try rfl) (And.intro (show (bnot (r11.v1 L j l n f m g == 9)) = false by rw [h6]; try rfl) (And.intro h7 (And.intro h7 (And.intro (show (bnot (r11.v1 L j l n f m g == 9)) = false by rw [h6]; try rfl) (And.intro h7 (And.intro (show (bnot (r11.v1 L j l n f m g == 9)) = false by rw [h6]; try rfl) (And.intro (rfl : false = false) (And.intro (r17 ((r11.v0 L j l n f m g).length) (fun (i : Nat) => (r11.v0 L j l n f m g).getD i 0) o4 ((r16.v L j l n f m g).length) (fun (i : Nat) => (r16.v L j l n f m g).getD i 0) o5 ([])) (And.intro h8 (And.intro h8 (And.intro h8 (And.intro (rfl : false = false) (And.intro (rfl : false = false) (And.intro (rfl : false = false) (And.intro (rfl : false = false) (And.intro (rfl : false = false) (And.intro (rfl : false = false) (And.intro (rfl : false = false) (And.intro (rfl : false = false) (And.intro (rfl : false = false) (And.intro (show (AV.bool false) = ((AV.bool (r3.v L j l n f m g k s))) by first | (simp only [r3.v, h1, h2, h3, h4, h5, h6, h7, h8, cond_true, cond_false]; done) | (try unfold r3.v; try simp only [h1, cond_true, cond_false]; try simp only [h2, cond_true, cond_false]; try simp only [h3, cond_true, cond_false]; try simp only [h4, cond_true, cond_false]; try simp only [h5, cond_true, cond_false]; try simp only [h6, cond_true, cond_false]; try simp only [h7, cond_true, cond_false]; try simp only [h8, cond_true, cond_false]; try rfl; done) | rfl) trivial)))))))))))))))))))))))))))))))))))))))))))) h
            | false =>
              have h6p := ne_of_beq_false h6
              exact Ret.of_run1 mix [(AV.bool (r3.v L j l n f m g k s))] Try.func3 rfl [.ret (AV.bool true) ([]), .b false, .ret (AV.bool (r10.v L n m)) ([]), .b false, .b false, .b false, .b false, .b false, .ret (AV.tup [AV.sl 1 (r11.v0 L j l n f m g).length fun (a : Nat) => AV.int IntKind.i64 ((r11.v0 L j l n f m g).getD a 0), AV.int IntKind.i64 (r11.v1 L j l n f m g)]) ([]), .ret (AV.tup [AV.sl 1 (r12.v0 L j l n f m g).length fun (a : Nat) => AV.int IntKind.i64 ((r12.v0 L j l n f m g).getD a 0), AV.int IntKind.i64 (r12.v1 L j l n f m g)]) ([]), .ret (AV.bool (r13.v L j l n f m g k s)) ([]), .ret (AV.bool (r14.v L j l n f m g k s)) ([]), .b false, .ret (AV.int IntKind.i64 (r15.v L j l n f m g)) ([]), .b false, .ret (AV.sl 1 (r16.v L j l n f m g).length fun (a : Nat) => AV.int IntKind.i64 ((r16.v L j l n f m g).getD a 0)) ([]), .b true, .b true, .b true, .b true, .b true, .b true, .b true, .b true, .b true, .b true] (by simp) (by simp) (kmp (by kernel_rfl) (And.intro (r9t ([])) (And.intro (rfl : false = false) (And.intro (r10 (L) (n) (f) o0 (m) (g) o1 ([])) (And.intro (show (bnot (r10.v L n m)) = false by rw [h1]; try rfl) (And.intro (show (bnot (r10.v L n m)) = false by rw [h1]; try rfl) (And.intro (show (bnot (r10.v L n m)) = false by rw [h1]; try rfl) (And.intro (show (bnot (r10.v L n m)) = false by rw [h1]; try rfl) (And.intro h2 (And.intro (r11 (L) (j) (l) (n) (f) o0 (m) (g) o1 ([])) (And.intro (r12 (L) (j) (l) (n) (f) o0 (m) (g) o1 ([])) (And.intro (r13 (L) (j) (l) (n) (f) o0 (m) (g) o1 (k) (s) o2 ([])) (And.intro (r14 (L) (j) (l) (n) (f) o0 (m) (g) o1 (k) (s) o2 ([])) (And.intro (show (bnot (r13.v L j l n f m g k s == r14.v L j l n f m g k s)) = false by rw [h3]; try rfl) (And.intro (r15 (L) (j) (l) (n) (f) o0 (m) (g) o1 ([])) (And.intro (show (bnot (r15.v L j l n f m g == 0)) = false by rw [h4]; try rfl) (And.intro (r16 (L) (j) (l) (n) (f) o0 (m) (g) o1 o3 ([])) (And.intro h5 (And.intro h5 (And.intro h5 (And.intro (show (bnot (r11.v1 L j l n f m g == 9)) = true by rw [h6]; try rfl) (And.intro (show (bnot (r11.v1 L j l n f m g == 9)) = true by rw [h6]; try rfl) (And.intro (show (bnot (r11.v1 L j l n f m g == 9)) = true by rw [h6]; try rfl) (And.intro (show (bnot (r11.v1 L j l n f m g == 9)) = true by rw [h6]; try rfl) (And.intro (show (bnot (r11.v1 L j l n f m g == 9)) = true by rw [h6]; try rfl) (And.intro (show (bnot (r11.v1 L j l n f m g == 9)) = true by rw [h6]; try rfl) (And.intro (rfl : true = true) (And.intro (show (AV.bool false) = ((AV.bool (r3.v L j l n f m g k s))) by first | (simp only [r3.v, h1, h2, h3, h4, h5, h6, cond_true, cond_false]; done) | (try unfold r3.v; try simp only [h1, cond_true, cond_false]; try simp only [h2, cond_true, cond_false]; try simp only [h3, cond_true, cond_false]; try simp only [h4, cond_true, cond_false]; try simp only [h5, cond_true, cond_false]; try simp only [h6, cond_true, cond_false]; try rfl; done) | rfl) trivial)))))))))))))))))))))))))))) h
          | false =>
            have h5p := ne_of_beq_false h5
            cases h6 : decide ((↑(r16.v L j l n f m g).length : Int) > 0) with
            | true =>
              have h6p := of_decide_eq_true h6
              cases h7 : r11.v1 L j l n f m g == 0 with
              | true =>
                have h7p := eq_of_beq h7
                try have := bd_lens (by first | assumption | omega) (by first | assumption | omega) (by first | assumption | omega)
                have o4 : (r11.v0 L j l n f m g).length ≤ (9223372036854775807 : Nat) := by first | assumption | omega | (simp only [List.length_append, List.length_cons, List.length_nil, List.length_map]; omega) | (simp_all; done)
                have o5 : (r16.v L j l n f m g).length ≤ (9223372036854775807 : Nat) := by first | assumption | omega | (simp only [List.length_append, List.length_cons, List.length_nil, List.length_map]; omega) | (simp_all; done)
                cases h8 : r17.v (r11.v0 L j l n f m g).length (fun (i : Nat) => (r11.v0 L j l n f m g).getD i 0) (r16.v L j l n f m g).length fun (i : Nat) => (r16.v L j l n f m g).getD i 0 with
                | true =>
                  cases h9 : r12.v1 L j l n f m g == 0 with
                  | true =>
                    have h9p := eq_of_beq h9
                    try have := bd_lens (by first | assumption | omega) (by first | assumption | omega) (by first | assumption | omega)
                    have o6 : (r12.v0 L j l n f m g).length ≤ (9223372036854775807 : Nat) := by first | assumption | omega | (simp only [List.length_append, List.length_cons, List.length_nil, List.length_map]; omega) | (simp_all; done)
                    have o7 : (r18.v L j l n f m g).length ≤ (9223372036854775807 : Nat) := by first | assumption | omega | (simp only [List.length_append, List.length_cons, List.length_nil, List.length_map]; omega) | (simp_all; done)
                    exact Ret.of_run1 mix [(AV.bool (r3.v L j l n f m g k s))] Try.func3 rfl [.ret (AV.bool true) ([]), .b false, .ret (AV.bool (r10.v L n m)) ([]), .b false, .b false, .b false, .b false, .b false, .ret (AV.tup [AV.sl 1 (r11.v0 L j l n f m g).length fun (a : Nat) => AV.int IntKind.i64 ((r11.v0 L j l n f m g).getD a 0), AV.int IntKind.i64 (r11.v1 L j l n f m g)]) ([]), .ret (AV.tup [AV.sl 1 (r12.v0 L j l n f m g).length fun (a : Nat) => AV.int IntKind.i64 ((r12.v0 L j l n f m g).getD a 0), AV.int IntKind.i64 (r12.v1 L j l n f m g)]) ([]), .ret (AV.bool (r13.v L j l n f m g k s)) ([]), .ret (AV.bool (r14.v L j l n f m g k s)) ([]), .b false, .ret (AV.int IntKind.i64 (r15.v L j l n f m g)) ([]), .b false, .ret (AV.sl 1 (r16.v L j l n f m g).length fun (a : Nat) => AV.int IntKind.i64 ((r16.v L j l n f m g).getD a 0)) ([]), .b false, .b false, .b false, .b false, .b false, .b false, .b false, .b true, .b true, .b false, .b true, .b false, .b false, .ret (AV.bool (r17.v (r11.v0 L j l n f m g).length (fun (i : Nat) => (r11.v0 L j l n f m g).getD i 0) (r16.v L j l n f m g).length fun (i : Nat) => (r16.v L j l n f m g).getD i 0)) ([]), .b true, .b true, .b true, .b true, .b true, .b true, .b true, .b true, .b true, .b true, .ret (AV.sl 1 (r18.v L j l n f m g).length fun (a : Nat) => AV.int IntKind.i64 ((r18.v L j l n f m g).getD a 0)) ([]), .b true, .ret (AV.bool (r17.v (r12.v0 L j l n f m g).length (fun (i : Nat) => (r12.v0 L j l n f m g).getD i 0) (r18.v L j l n f m g).length fun (i : Nat) => (r18.v L j l n f m g).getD i 0)) ([]), .b true] (by simp) (by simp) (kmp (by kernel_rfl) (And.intro (r9t ([])) (And.intro (rfl : false = false) (And.intro (r10 (L) (n) (f) o0 (m) (g) o1 ([])) (And.intro (show (bnot (r10.v L n m)) = false by rw [h1]; try rfl) (And.intro (show (bnot (r10.v L n m)) = false by rw [h1]; try rfl) (And.intro (show (bnot (r10.v L n m)) = false by rw [h1]; try rfl) (And.intro (show (bnot (r10.v L n m)) = false by rw [h1]; try rfl) (And.intro h2 (And.intro (r11 (L) (j) (l) (n) (f) o0 (m) (g) o1 ([])) (And.intro (r12 (L) (j) (l) (n) (f) o0 (m) (g) o1 ([])) (And.intro (r13 (L) (j) (l) (n) (f) o0 (m) (g) o1 (k) (s) o2 ([])) (And.intro (r14 (L) (j) (l) (n) (f) o0 (m) (g) o1 (k) (s) o2 ([])) (And.intro (show (bnot (r13.v L j l n f m g k s == r14.v L j l n f m g k s)) = false by rw [h3]; try rfl) (And.intro (r15 (L) (j) (l) (n) (f) o0 (m) (g) o1 ([])) (And.intro (show (bnot (r15.v L j l n f m g == 0)) = false by rw [h4]; try rfl) (And.intro (r16 (L) (j) (l) (n) (f) o0 (m) (g) o1 o3 ([])) (And.intro h5 (And.intro h5 (And.intro h5 (And.intro (rfl : false = false) (And.intro (rfl : false = false) (And.intro (rfl : false = false) (And.intro (rfl : false = false) (And.intro h6 (And.intro h6 (And.intro (rfl : false = false) (And.intro h6 (And.intro (rfl : false = false) (And.intro (show (bnot (r11.v1 L j l n f m g == 0)) = false by rw [h7]; try rfl) (And.intro (r17 ((r11.v0 L j l n f m g).length) (fun (i : Nat) => (r11.v0 L j l n f m g).getD i 0) o4 ((r16.v L j l n f m g).length) (fun (i : Nat) => (r16.v L j l n f m g).getD i 0) o5 ([])) (And.intro h8 (And.intro h8 (And.intro h8 (And.intro h9 (And.intro h9 (And.intro h9 (And.intro h9 (And.intro h9 (And.intro h9 (And.intro h9 (And.intro (r18 (L) (j) (l) (n) (f) o0 (m) (g) o1 o3 ([])) (And.intro h9 (And.intro (r17 ((r12.v0 L j l n f m g).length) (fun (i : Nat) => (r12.v0 L j l n f m g).getD i 0) o6 ((r18.v L j l n f m g).length) (fun (i : Nat) => (r18.v L j l n f m g).getD i 0) o7 ([])) (And.intro h9 (And.intro (show (AV.bool (r17.v (r12.v0 L j l n f m g).length (fun (i : Nat) => (r12.v0 L j l n f m g).getD i 0) (r18.v L j l n f m g).length fun (i : Nat) => (r18.v L j l n f m g).getD i 0)) = ((AV.bool (r3.v L j l n f m g k s))) by first | (simp only [r3.v, h1, h2, h3, h4, h5, h6, h7, h8, h9, cond_true, cond_false]; done) | (try unfold r3.v; try simp only [h1, cond_true, cond_false]; try simp only [h2, cond_true, cond_false]; try simp only [h3, cond_true, cond_false]; try simp only [h4, cond_true, cond_false]; try simp only [h5, cond_true, cond_false]; try simp only [h6, cond_true, cond_false]; try simp only [h7, cond_true, cond_false]; try simp only [h8, cond_true, cond_false]; try simp only [h9, cond_true, cond_false]; try rfl; done) | rfl) trivial)))))))))))))))))))))))))))))))))))))))))))))) h
                  | false =>
                    have h9p := ne_of_beq_false h9
                    exact Ret.of_run1 mix [(AV.bool (r3.v L j l n f m g k s))] Try.func3 rfl [.ret (AV.bool true) ([]), .b false, .ret (AV.bool (r10.v L n m)) ([]), .b false, .b false, .b false, .b false, .b false, .ret (AV.tup [AV.sl 1 (r11.v0 L j l n f m g).length fun (a : Nat) => AV.int IntKind.i64 ((r11.v0 L j l n f m g).getD a 0), AV.int IntKind.i64 (r11.v1 L j l n f m g)]) ([]), .ret (AV.tup [AV.sl 1 (r12.v0 L j l n f m g).length fun (a : Nat) => AV.int IntKind.i64 ((r12.v0 L j l n f m g).getD a 0), AV.int IntKind.i64 (r12.v1 L j l n f m g)]) ([]), .ret (AV.bool (r13.v L j l n f m g k s)) ([]), .ret (AV.bool (r14.v L j l n f m g k s)) ([]), .b false, .ret (AV.int IntKind.i64 (r15.v L j l n f m g)) ([]), .b false, .ret (AV.sl 1 (r16.v L j l n f m g).length fun (a : Nat) => AV.int IntKind.i64 ((r16.v L j l n f m g).getD a 0)) ([]), .b false, .b false, .b false, .b false, .b false, .b false, .b false, .b true, .b true, .b false, .b true, .b false, .b false, .ret (AV.bool (r17.v (r11.v0 L j l n f m g).length (fun (i : Nat) => (r11.v0 L j l n f m g).getD i 0) (r16.v L j l n f m g).length fun (i : Nat) => (r16.v L j l n f m g).getD i 0)) ([]), .b true, .b true, .b true, .b false, .b false, .b false, .b false, .b false, .b false, .b false, .b false, .b false] (by simp) (by simp) (kmp (by kernel_rfl) (And.intro (r9t ([])) (And.intro (rfl : false = false) (And.intro (r10 (L) (n) (f) o0 (m) (g) o1 ([])) (And.intro (show (bnot (r10.v L n m)) = false by rw [h1]; try rfl) (And.intro (show (bnot (r10.v L n m)) = false by rw [h1]; try rfl) (And.intro (show (bnot (r10.v L n m)) = false by rw [h1]; try rfl) (And.intro (show (bnot (r10.v L n m)) = false by rw [h1]; try rfl) (And.intro h2 (And.intro (r11 (L) (j) (l) (n) (f) o0 (m) (g) o1 ([])) (And.intro (r12 (L) (j) (l) (n) (f) o0 (m) (g) o1 ([])) (And.intro (r13 (L) (j) (l) (n) (f) o0 (m) (g) o1 (k) (s) o2 ([])) (And.intro (r14 (L) (j) (l) (n) (f) o0 (m) (g) o1 (k) (s) o2 ([])) (And.intro (show (bnot (r13.v L j l n f m g k s == r14.v L j l n f m g k s)) = false by rw [h3]; try rfl) (And.intro (r15 (L) (j) (l) (n) (f) o0 (m) (g) o1 ([])) (And.intro (show (bnot (r15.v L j l n f m g == 0)) = false by rw [h4]; try rfl) (And.intro (r16 (L) (j) (l) (n) (f) o0 (m) (g) o1 o3 ([])) (And.intro h5 (And.intro h5 (And.intro h5 (And.intro (rfl : false = false) (And.intro (rfl : false = false) (And.intro (rfl : false = false) (And.intro (rfl : false = false) (And.intro h6 (And.intro h6 (And.intro (rfl : false = false) (And.intro h6 (And.intro (rfl : false = false) (And.intro (show (bnot (r11.v1 L j l n f m g == 0)) = false by rw [h7]; try rfl) (And.intro (r17 ((r11.v0 L j l n f m g).length) (fun (i : Nat) => (r11.v0 L j l n f m g).getD i 0) o4 ((r16.v L j l n f m g).length) (fun (i : Nat) => (r16.v L j l n f m g).getD i 0) o5 ([])) (And.intro h8 (And.intro h8 (And.intro h8 (And.intro h9 (And.intro h9 (And.intro h9 (And.intro h9 (And.intro h9 (And.intro h9 (And.intro h9 (And.intro h9 (And.intro h9 (And.intro (show (AV.bool false) = ((AV.bool (r3.v L j l n f m g k s))) by first | (simp only [r3.v, h1, h2, h3, h4, h5, h6, h7, h8, h9, cond_true, cond_false]; done) | (try unfold r3.v; try simp only [h1, cond_true, cond_false]; try simp only [h2, cond_true, cond_false]; try simp only [h3, cond_true, cond_false]; try simp only [h4, cond_true, cond_false]; try simp only [h5, cond_true, cond_false]; try simp only [h6, cond_true, cond_false]; try simp only [h7, cond_true, cond_false]; try simp only [h8, cond_true, cond_false]; try simp only [h9, cond_true, cond_false]; try rfl; done) | rfl) trivial)))))))))))))))))))))))))))))))))))))))))))) h
                | false =>
                  exact Ret.of_run1 mix [(AV.bool (r3.v L j l n f m g k s))] Try.func3 rfl [.ret (AV.bool true) ([]), .b false, .ret (AV.bool (r10.v L n m)) ([]), .b false, .b false, .b false, .b false, .b false, .ret (AV.tup [AV.sl 1 (r11.v0 L j l n f m g).length fun (a : Nat) => AV.int IntKind.i64 ((r11.v0 L j l n f m g).getD a 0), AV.int IntKind.i64 (r11.v1 L j l n f m g)]) ([]), .ret (AV.tup [AV.sl 1 (r12.v0 L j l n f m g).length fun (a : Nat) => AV.int IntKind.i64 ((r12.v0 L j l n f m g).getD a 0), AV.int IntKind.i64 (r12.v1 L j l n f m g)]) ([]), .ret (AV.bool (r13.v L j l n f m g k s)) ([]), .ret (AV.bool (r14.v L j l n f m g k s)) ([]), .b false, .ret (AV.int IntKind.i64 (r15.v L j l n f m g)) ([]), .b false, .ret (AV.sl 1 (r16.v L j l n f m g).length fun (a : Nat) => AV.int IntKind.i64 ((r16.v L j l n f m g).getD a 0)) ([]), .b false, .b false, .b false, .b false, .b false, .b false, .b false, .b true, .b true, .b false, .b true, .b false, .b false, .ret (AV.bool (r17.v (r11.v0 L j l n f m g).length (fun (i : Nat) => (r11.v0 L j l n f m g).getD i 0) (r16.v L j l n f m g).length fun (i : Nat) => (r16.v L j l n f m g).getD i 0)) ([]), .b false, .b false, .b false, .b false, .b false, .b false, .b false, .b false, .b false, .b false, .b false, .b false] (by simp) (by simp) (kmp (by kernel_rfl) (And.intro (r9t ([])) (And.intro (rfl : false = false) (And.intro (r10 (L) (n) (f) o0 (m) (g) o1 ([])) (And.intro (show (bnot (r10.v L n m)) = false by rw [h1]; try rfl) (And.intro (show (bnot (r10.v L n m)) = false by rw [h1]; try rfl) (And.intro (show (bnot (r10.v L n m)) = false by rw [h1]; try rfl) (And.intro (show (bnot (r10.v L n m)) = false by rw [h1]; try rfl) (And.intro h2 (And.intro (r11 (L) (j) (l) (n) (f) o0 (m) (g) o1 ([])) (And.intro (r12 (L) (j) (l) (n) (f) o0 (m) (g) o1 ([])) (And.intro (r13 (L) (j) (l) (n) (f) o0 (m) (g) o1 (k) (s) o2 ([])) (And.intro (r14 (L) (j) (l) (n) (f) o0 (m) (g) o1 (k) (s) o2 ([])) (And.intro (show (bnot (r13.v L j l n f m g k s == r14.v L j l n f m g k s)) = false by rw [h3]; try rfl) (And.intro (r15 (L) (j) (l) (n) (f) o0 (m) (g) o1 ([])) (And.intro (show (bnot (r15.v L j l n f m g == 0)) = false by rw [h4]; try rfl) (And.intro (r16 (L) (j) (l) (n) (f) o0 (m) (g) o1 o3 ([])) (And.intro h5 (And.intro h5 (And.intro h5 (And.intro (rfl : false = false) (And.intro (rfl : false = false) (And.intro (rfl : false = false) (And.intro (rfl : false = false) (And.intro h6 (And.intro h6 (And.intro (rfl : false = false) (And.intro h6 (And.intro (rfl : false = false) (And.intro (show (bnot (r11.v1 L j l n f m g == 0)) = false by rw [h7]; try rfl) (And.intro (r17 ((r11.v0 L j l n f m g).length) (fun (i : Nat) => (r11.v0 L j l n f m g).getD i 0) o4 ((r16.v L j l n f m g).length) (fun (i : Nat) => (r16.v L j l n f m g).getD i 0) o5 ([])) (And.intro h8 (And.intro h8 (And.intro h8 (And.intro (rfl : false = false) (And.intro (rfl : false = false) (And.intro (rfl : false = false) (And.intro (rfl : false = false) (And.intro (rfl : false = false) (And.intro (rfl : false = false) (And.intro (rfl : false = false) (And.intro (rfl : false = false) (And.intro (rfl : false = false) (And.intro (show (AV.bool false) = ((AV.bool (r3.v L j l n f m g k s))) by first | (simp only [r3.v, h1, h2, h3, h4, h5, h6, h7, h8, cond_true, cond_false]; done) | (try unfold r3.v; try simp only [h1, cond_true, cond_false]; try simp only [h2, cond_true, cond_false]; try simp only [h3, cond_true, cond_false]; try simp only [h4, cond_true, cond_false]; try simp only [h5, cond_true, cond_false]; try simp only [h6, cond_true, cond_false]; try simp only [h7, cond_true, cond_false]; try simp only [h8, cond_true, cond_false]; try rfl; done) | rfl) trivial)))))))))))))))))))))))))))))))))))))))))))) h
              | false =>
                have h7p := ne_of_beq_false h7
                exact Ret.of_run1 mix [(AV.bool (r3.v L j l n f m g k s))] Try.func3 rfl [.ret (AV.bool true) ([]), .b false, .ret (AV.bool (r10.v L n m)) ([]), .b false, .b false, .b false, .b false, .b false, .ret (AV.tup [AV.sl 1 (r11.v0 L j l n f m g).length fun (a : Nat) => AV.int IntKind.i64 ((r11.v0 L j l n f m g).getD a 0), AV.int IntKind.i64 (r11.v1 L j l n f m g)]) ([]), .ret (AV.tup [AV.sl 1 (r12.v0 L j l n f m g).length fun (a : Nat) => AV.int IntKind.i64 ((r12.v0 L j l n f m g).getD a 0), AV.int IntKind.i64 (r12.v1 L j l n f m g)]) ([]), .ret (AV.bool (r13.v L j l n f m g k s)) ([]), .ret (AV.bool (r14.v L j l n f m g k s)) ([]), .b false, .ret (AV.int IntKind.i64 (r15.v L j l n f m g)) ([]), .b false, .ret (AV.sl 1 (r16.v L j l n f m g).length fun (a : Nat) => AV.int IntKind.i64 ((r16.v L j l n f m g).getD a 0)) ([]), .b false, .b false, .b false, .b false, .b false, .b false, .b false, .b true, .b true, .b false, .b true, .b false, .b true] (by simp) (by simp) (kmp (by kernel_rfl) (And.intro (r9t ([])) (And.intro (rfl : false = false) (And.intro (r10 (L) (n) (f) o0 (m) (g) o1 ([])) (And.intro (show (bnot (r10.v L n m)) = false by rw [h1]; try rfl) (And.intro (show (bnot (r10.v L n m)) = false by rw [h1]; try rfl) (And.intro (show (bnot (r10.v L n m)) = false by rw [h1]; try rfl) (And.intro (show (bnot (r10.v L n m)) = false by rw [h1]; try rfl) (And.intro h2 (And.intro (r11 (L) (j) (l) (n) (f) o0 (m) (g) o1 ([])) (And.intro (r12 (L) (j) (l) (n) (f) o0 (m) (g) o1 ([])) (And.intro (r13 (L) (j) (l) (n) (f) o0 (m) (g) o1 (k) (s) o2 ([])) (And.intro (r14 (L) (j) (l) (n) (f) o0 (m) (g) o1 (k) (s) o2 ([])) (And.intro (show (bnot (r13.v L j l n f m g k s == r14.v L j l n f m g k s)) = false by rw [h3]; try rfl) (And.intro (r15 (L) (j) (l) (n) (f) o0 (m) (g) o1 ([])) (And.intro (show (bnot (r15.v L j l n f m g == 0)) = false by rw [h4]; try rfl) (And.intro (r16 (L) (j) (l) (n) (f) o0 (m) (g) o1 o3 ([])) (And.intro h5 (And.intro h5 (And.intro h5 (And.intro (rfl : false = false) (And.intro (rfl : false = false) (And.intro (rfl : false = false) (And.intro (rfl : false = false) (And.intro h6 (And.intro h6 (And.intro (rfl : false = false) (And.intro h6 (And.intro (rfl : false = false) (And.intro (show (bnot (r11.v1 L j l n f m g == 0)) = true by rw [h7]; try rfl) (And.intro (show (AV.bool false) = ((AV.bool (r3.v L j l n f m g k s))) by first | (simp only [r3.v, h1, h2, h3, h4, h5, h6, h7, cond_true, cond_false]; done) | (try unfold r3.v; try simp only [h1, cond_true, cond_false]; try simp only [h2, cond_true, cond_false]; try simp only [h3, cond_true, cond_false]; try simp only [h4, cond_true, cond_false]; try simp only [h5, cond_true, cond_false]; try simp only [h6, cond_true, cond_false]; try simp only [h7, cond_true, cond_false]; try rfl; done) | rfl) trivial))))))))))))))))))))))))))))))) h
            | false =>
              have h6p := of_decide_eq_false h6
              try have := bd_lens (by first | assumption | omega) (by first | assumption | omega) (by first | assumption | omega)
              have o4 : (r11.v0 L j l n f m g).length ≤ (9223372036854775807 : Nat) := by first | assumption | omega | (simp only [List.length_append, List.length_cons, List.length_nil, List.length_map]; omega) | (simp_all; done)
              have o5 : (r16.v L j l n f m g).length ≤ (9223372036854775807 : Nat) := by first | assumption | omega | (simp only [List.length_append, List.length_cons, List.length_nil, List.length_map]; omega) | (simp_all; done)
              cases h7 : r17.v (r11.v0 L j l n f m g).length (fun (i : Nat) => (r11.v0 L j l n f m g).getD i 0) (r16.v L j l n f m g).length fun (i : Nat) => (r16.v L j l n f m g).getD i 0 with
              | true =>
                cases h8 : r12.v1 L j l n f m g == 0 with
                | true =>
                  have h8p := eq_of_beq h8
                  try have := bd_lens (by first | assumption | omega) (by first | assumption | omega) (by first | assumption | omega)
                  have o6 : (r12.v0 L j l n f m g).length ≤ (9223372036854775807 : Nat) := by first | assumption | omega | (simp only [List.length_append, List.length_cons, List.length_nil, List.length_map]; omega) | (simp_all; done)
                  have o7 : (r18.v L j l n f m g).length ≤ (9223372036854775807 : Nat) := by first | assumption | omega | (simp only [List.length_append, List.length_cons, List.length_nil, List.length_map]; omega) | (simp_all; done)
                  exact Ret.of_run1 mix [(AV.bool (r3.v L j l n f m g k s))] Try.func3 rfl [.ret (AV.bool true) ([]), .b false, .ret (AV.bool (r10.v L n m)) ([]), .b false, .b false, .b false, .b false, .b false, .ret (AV.tup [AV.sl 1 (r11.v0 L j l n f m g).length fun (a : Nat) => AV.int IntKind.i64 ((r11.v0 L j l n f m g).getD a 0), AV.int IntKind.i64 (r11.v1 L j l n f m g)]) ([]), .ret (AV.tup [AV.sl 1 (r12.v0 L j l n f m g).length fun (a : Nat) => AV.int IntKind.i64 ((r12.v0 L j l n f m g).getD a 0), AV.int IntKind.i64 (r12.v1 L j l n f m g)]) ([]), .ret (AV.bool (r13.v L j l n f m g k s)) ([]), .ret (AV.bool (r14.v L j l n f m g k s)) ([]), .b false, .ret (AV.int IntKind.i64 (r15.v L j l n f m g)) ([]), .b false, .ret (AV.sl 1 (r16.v L j l n f m g).length fun (a : Nat) => AV.int IntKind.i64 ((r16.v L j l n f m g).getD a 0)) ([]), .b false, .b false, .b false, .b false, .b false, .b false, .b false, .b false, .b false, .b false, .b false, .b false, .b false, .ret (AV.bool (r17.v (r11.v0 L j l n f m g).length (fun (i : Nat) => (r11.v0 L j l n f m g).getD i 0) (r16.v L j l n f m g).length fun (i : Nat) => (r16.v L j l n f m g).getD i 0)) ([]), .b true, .b true, .b true, .b true, .b true, .b true, .b true, .b true, .b true, .b true, .ret (AV.sl 1 (r18.v L j l n f m g).length fun (a : Nat) => AV.int IntKind.i64 ((r18.v L j l n f m g).getD a 0)) ([]), .b true, .ret (AV.bool (r17.v (r12.v0 L j l n f m g).length (fun (i : Nat) => (r12.v0 L j l n f m g).getD i 0) (r18.v L j l n f m g).length fun (i : Nat) => (r18.v L j l n f m g).getD i 0)) ([]), .b true] (by simp) (by simp) (kmp (by kernel_rfl) (And.intro (r9t ([])) (And.intro (rfl : false = false) (And.intro (r10 (L) (n) (f) o0 (m) (g) o1 ([])) (And.intro (show (bnot (r10.v L n m)) = false by rw [h1]; try rfl) (And.intro (show (bnot (r10.v L n m)) = false by rw [h1]; try rfl) (And.intro (show (bnot (r10.v L n m)) = false by rw [h1]; try rfl) (And.intro (show (bnot (r10.v L n m)) = false by rw [h1]; try rfl) (And.intro h2 (And.intro (r11 (L) (j) (l) (n) (f) o0 (m) (g) o1 ([])) (And.intro (r12 (L) (j) (l) (n) (f) o0 (m) (g) o1 ([])) (And.intro (r13 (L) (j) (l) (n) (f) o0 (m) (g) o1 (k) (s) o2 ([])) (And.intro (r14 (L) (j) (l) (n) (f) o0 (m) (g) o1 (k) (s) o2 ([])) (And.intro (show (bnot (r13.v L j l n f m g k s == r14.v L j l n f m g k s)) = false by rw [h3]; try rfl) (And.intro (r15 (L) (j) (l) (n) (f) o0 (m) (g) o1 ([])) (And.intro (show (bnot (r15.v L j l n f m g == 0)) = false by rw [h4]; try rfl) (And.intro (r16 (L) (j) (l) (n) (f) o0 (m) (g) o1 o3 ([])) (And.intro h5 (And.intro h5 (And.intro h5 (And.intro (rfl : false = false) (And.intro (rfl : false = false) (And.intro (rfl : false = false) (And.intro (rfl : false = false) (And.intro h6 (And.intro h6 (And.intro (rfl : false = false) (And.intro h6 (And.intro (rfl : false = false) (And.intro (rfl : false = false) (And.intro (r17 ((r11.v0 L j l n f m g).length) (fun (i : Nat) => (r11.v0 L j l n f m g).getD i 0) o4 ((r16.v L j l n f m g).length) (fun (i : Nat) => (r16.v L j l n f m g).getD i 0) o5 ([])) (And.intro h7 (And.intro h7 (And.intro h7 (And.intro h8 (And.intro h8 (And.intro h8 (And.intro h8 (And.intro h8 (And.intro h8 (And.intro h8 (And.intro (r18 (L) (j) (l) (n) (f) o0 (m) (g) o1 o3 ([])) (And.intro h8 (And.intro (r17 ((r12.v0 L j l n f m g).length) (fun (i : Nat) => (r12.v0 L j l n f m g).getD i 0) o6 ((r18.v L j l n f m g).length) (fun (i : Nat) => (r18.v L j l n f m g).getD i 0) o7 ([])) (And.intro h8 (And.intro (show (AV.bool (r17.v (r12.v0 L j l n f m g).length (fun (i : Nat) => (r12.v0 L j l n f m g).getD i 0) (r18.v L j l n f m g).length fun (i : Nat) => (r18.v L j l n f m g).getD i 0)) = ((AV.bool (r3.v L j l n f m g k s))) by first | (simp only [r3.v, h1, h2, h3, h4, h5, h6, h7, h8, cond_true, cond_false]; done) | (try unfold r3.v; try simp only [h1, cond_true, cond_false]; try simp only [h2, cond_true, cond_false]; try simp only [h3, cond_true, cond_false]; try simp only [h4, cond_true, cond_false]; try simp only [h5, cond_true, cond_false]; try simp only [h6, cond_true, cond_false]; try simp only [h7, cond_true, cond_false]; try simp only [h8, cond_true, cond_false]; try rfl; done) | rfl) trivial)))))))))))))))))))))))))))))))))))))))))))))) h
                | false =>
                  have h8p := ne_of_beq_false h8
                  exact Ret.of_run1 mix [(AV.bool (r3.v L j l n f m g k s))] Try.func3 rfl [.ret (AV.bool true) ([]), .b false, .ret (AV.bool (r10.v L n m)) ([]), .b false, .b false, .b false, .b false, .b false, .ret (AV.tup [AV.sl 1 (r11.v0 L j l n f m g).length fun (a : Nat) => AV.int IntKind.i64 ((r11.v0 L j l n f m g).getD a 0), AV.int IntKind.i64 (r11.v1 L j l n f m g)]) ([]), .ret (AV.tup [AV.sl 1 (r12.v0 L j l n f m g).length fun (a : Nat) => AV.int IntKind.i64 ((r12.v0 L j l n f m g).getD a 0), AV.int IntKind.i64 (r12.v1 L j l n f m g)]) ([]), .ret (AV.bool (r13.v L j l n f m g k s)) ([]), .ret (AV.bool (r14.v L j l n f m g k s)) ([]), .b false, .ret (AV.int IntKind.i64 (r15.v L j l n f m g)) ([]), .b false, .ret (AV.sl 1 (r16.v L j l n f m g).length fun (a : Nat) => AV.int IntKind.i64 ((r16.v L j l n f m g).getD a 0)) ([]), .b false, .b false, .b false, .b false, .b false, .b false, .b false, .b false, .b false, .b false, .b false, .b false, .b false, .ret (AV.bool (r17.v (r11.v0 L j l n f m g).length (fun (i : Nat) => (r11.v0 L j l n f m g).getD i 0) (r16.v L j l n f m g).length fun (i : Nat) => (r16.v L j l n f m g).getD i 0)) ([]), .b true, .b true, .b true, .b false, .b false, .b false, .b false, .b false, .b false, .b false, .b false, .b false] (by simp) (by simp) (kmp (by kernel_rfl) (And.intro (r9t ([])) (And.intro (rfl : false = false) (And.intro (r10 (L) (n) (f) o0 (m) (g) o1 ([])) (And.intro (show (bnot (r10.v L n m)) = false by rw [h1]; try rfl) (And.intro (show (bnot (r10.v L n m)) = false by rw [h1]; try rfl) (And.intro (show (bnot (r10.v L n m)) = false by rw [h1]; try rfl) (And.intro (show (bnot (r10.v L n m)) = false by rw [h1]; try rfl) (And.intro h2 (And.intro (r11 (L) (j) (l) (n) (f) o0 (m) (g) o1 ([])) (And.intro (r12 (L) (j) (l) (n) (f) o0 (m) (g) o1 ([])) (And.intro (r13 (L) (j) (l) (n) (f) o0 (m) (g) o1 (k) (s) o2 ([])) (And.intro (r14 (L) (j) (l) (n) (f) o0 (m) (g) o1 (k) (s) o2 ([])) (And.intro (show (bnot (r13.v L j l n f m g k s == r14.v L j l n f m g k s)) = false by rw [h3]; try rfl) (And.intro (r15 (L) (j) (l) (n) (f) o0 (m) (g) o1 ([])) (And.intro (show (bnot (r15.v L j l n f m g == 0)) = false by rw [h4]; try rfl) (And.intro (r16 (L) (j) (l) (n) (f) o0 (m) (g) o1 o3 ([])) (And.intro h5 (And.intro h5 (And.intro h5 (And.intro (rfl : false = false) (And.intro (rfl : false = false) (And.intro (rfl : false = false) (And.intro (rfl : false = false) (And.intro h6 (And.intro h6 (And.intro (rfl : false = false) (And.intro h6 (And.intro (rfl : false = false) (And.intro (rfl : false = false) (And.intro (r17 ((r11.v0 L j l n f m g).length) (fun (i : Nat) => (r11.v0 L j l n f m g).getD i 0) o4 ((r16.v L j l n f m g).length) (fun (i : Nat) => (r16.v L j l n f m g).getD i 0) o5 ([])) (And.intro h7 (And.intro h7 (And.intro h7 (And.intro h8 (And.intro h8 (And.intro h8 (And.intro h8 (And.intro h8 (And.intro h8 (And.intro h8 (And.intro h8 (And.intro h8 (And.intro (show (AV.bool false) = ((AV.bool (r3.v L j l n f m g k s))) by first | (simp only [r3.v, h1, h2, h3, h4, h5, h6, h7, h8, cond_true, cond_false]; done) | (try unfold r3.v; try simp only [h1, cond_true, cond_false]; try simp only [h2, cond_true, cond_false]; try simp only [h3, cond_true, cond_false]; try simp only [h4, cond_true, cond_false]; try simp only [h5, cond_true, cond_false]; try simp only [h6, cond_true, cond_false]; try simp only [h7, cond_true, cond_false]; try simp only [h8, cond_true, cond_false]; try rfl; done) | rfl) trivial)))))))))))))))))))))))))))))))))))))))))))) h
              | false =>
                exact Ret.of_run1 mix [(AV.bool (r3.v L j l n f m g k s))] Try.func3 rfl [.ret (AV.bool true) ([]), .b false, .ret (AV.bool (r10.v L n m)) ([]), .b false, .b false, .b false, .b false, .b false, .ret (AV.tup [AV.sl 1 (r11.v0 L j l n f m g).length fun (a : Nat) => AV.int IntKind.i64 ((r11.v0 L j l n f m g).getD a 0), AV.int IntKind.i64 (r11.v1 L j l n f m g)]) ([]), .ret (AV.tup [AV.sl 1 (r12.v0 L j l n f m g).length fun (a : Nat) => AV.int IntKind.i64 ((r12.v0 L j l n f m g).getD a 0), AV.int IntKind.i64 (r12.v1 L j l n f m g)]) ([]), .ret (AV.bool (r13.v L j l n f m g k s)) ([]), .ret (AV.bool (r14.v L j l n f m g k s)) ([]), .b false, .ret (AV.int IntKind.i64 (r15.v L j l n f m g)) ([]), .b false, .ret (AV.sl 1 (r16.v L j l n f m g).length fun (a : Nat) => AV.int IntKind.i64 ((r16.v L j l n f m g).getD a 0)) ([]), .b false, .b false, .b false, .b false, .b false, .b false, .b false, .b false, .b false, .b false, .b false, .b false, .b false, .ret (AV.bool (r17.v (r11.v0 L j l n f m g).length (fun (i : Nat) => (r11.v0 L j l n f m g).getD i 0) (r16.v L j l n f m g).length fun (i : Nat) => (r16.v L j l n f m g).getD i 0)) ([]), .b false, .b false, .b false, .b false, .b false, .b false, .b false, .b false, .b false, .b false, .b false, .b false] (by simp) (by simp) (kmp (by kernel_rfl) (And.intro (r9t ([])) (And.intro (rfl : false = false) (And.intro (r10 (L) (n) (f) o0 (m) (g) o1 ([])) (And.intro (show (bnot (r10.v L n m)) = false by rw [h1]; try rfl) (And.intro (show (bnot (r10.v L n m)) = false by rw [h1]; try rfl) (And.intro (show (bnot (r10.v L n m)) = false by rw [h1]; try rfl) (And.intro (show (bnot (r10.v L n m)) = false by rw [h1]; try rfl) (And.intro h2 (And.intro (r11 (L) (j) (l) (n) (f) o0 (m) (g) o1 ([])) (And.intro (r12 (L) (j) (l) (n) (f) o0 (m) (g) o1 ([])) (And.intro (r13 (L) (j) (l) (n) (f) o0 (m) (g) o1 (k) (s) o2 ([])) (And.intro (r14 (L) (j) (l) (n) (f) o0 (m) (g) o1 (k) (s) o2 ([])) (And.intro (show (bnot (r13.v L j l n f m g k s == r14.v L j l n f m g k s)) = false by rw [h3]; try rfl) (And.intro (r15 (L) (j) (l) (n) (f) o0 (m) (g) o1 ([])) (And.intro (show (bnot (r15.v L j l n f m g == 0)) = false by rw [h4]; try rfl) (And.intro (r16 (L) (j) (l) (n) (f) o0 (m) (g) o1 o3 ([])) (And.intro h5 (And.intro h5 (And.intro h5 (And.intro (rfl : false = false) (And.intro (rfl : false = false) (And.intro (rfl : false = false) (And.intro (rfl : false = false) (And.intro h6 (And.intro h6 (And.intro (rfl : false = false) (And.intro h6 (And.intro (rfl : false = false) (And.intro (rfl : false = false) (And.intro (r17 ((r11.v0 L j l n f m g).length) (fun (i : Nat) => (r11.v0 L j l n f m g).getD i 0) o4 ((r16.v L j l n f m g).length) (fun (i : Nat) => (r16.v L j l n f m g).getD i 0) o5 ([])) (And.intro h7 (And.intro h7 (And.intro h7 (And.intro (rfl : false = false) (And.intro (rfl : false = false) (And.intro (rfl : false = false) (And.intro (rfl : false = false) (And.intro (rfl : false = false) (And.intro (rfl : false = false) (And.intro (rfl : false = false) (And.intro (rfl : false = false) (And.intro (rfl : false = false) (And.intro (show (AV.bool false) = ((AV.bool (r3.v L j l n f m g k s))) by first | (simp only [r3.v, h1, h2, h3, h4, h5, h6, h7, cond_true, cond_false]; done) | (try unfold r3.v; try simp only [h1, cond_true, cond_false]; try simp only [h2, cond_true, cond_false]; try simp only [h3, cond_true, cond_false]; try simp only [h4, cond_true, cond_false]; try simp only [h5, cond_true, cond_false]; try simp only [h6, cond_true, cond_false]; try simp only [h7, cond_true, cond_false]; try rfl; done) | rfl) trivial)))))))))))))))))))))))))))))))))))))))))))) h
        | false =>
          have h4p := ne_of_beq_false h4
          cases h5 : r11.v1 L j l n f m g == r15.v L j l n f m g with
          | true =>
            have h5p := eq_of_beq h5
            cases h6 : r12.v1 L j l n f m g == r15.v L j l n f m g with
            | true =>
              have h6p := eq_of_beq h6
              cases h7 : (↑(r11.v0 L j l n f m g).length : Int) == 0 with
              | true =>
                have h7p := eq_of_beq h7
                exact Ret.of_run1 mix [(AV.bool (r3.v L j l n f m g k s))] Try.func3 rfl [.ret (AV.bool true) ([]), .b false, .ret (AV.bool (r10.v L n m)) ([]), .b false, .b false, .b false, .b false, .b false, .ret (AV.tup [AV.sl 1 (r11.v0 L j l n f m g).length fun (a : Nat) => AV.int IntKind.i64 ((r11.v0 L j l n f m g).getD a 0), AV.int IntKind.i64 (r11.v1 L j l n f m g)]) ([]), .ret (AV.tup [AV.sl 1 (r12.v0 L j l n f m g).length fun (a : Nat) => AV.int IntKind.i64 ((r12.v0 L j l n f m g).getD a 0), AV.int IntKind.i64 (r12.v1 L j l n f m g)]) ([]), .ret (AV.bool (r13.v L j l n f m g k s)) ([]), .ret (AV.bool (r14.v L j l n f m g k s)) ([]), .b false, .ret (AV.int IntKind.i64 (r15.v L j l n f m g)) ([]), .b true, .b true, .b true, .b true, .b true, .b true, .b true, .b true, .b true, .b true, .b true, .b true, .b true] (by simp) (by simp) (kmp (by kernel_rfl) (And.intro (r9t ([])) (And.intro (rfl : false = false) (And.intro (r10 (L) (n) (f) o0 (m) (g) o1 ([])) (And.intro (show (bnot (r10.v L n m)) = false by rw [h1]; try rfl) (And.intro (show (bnot (r10.v L n m)) = false by rw [h1]; try rfl) (And.intro (show (bnot (r10.v L n m)) = false by rw [h1]; try rfl) (And.intro (show (bnot (r10.v L n m)) = false by rw [h1]; try rfl) (And.intro h2 (And.intro (r11 (L) (j) (l) (n) (f) o0 (m) (g) o1 ([])) (And.intro (r12 (L) (j) (l) (n) (f) o0 (m) (g) o1 ([])) (And.intro (r13 (L) (j) (l) (n) (f) o0 (m) (g) o1 (k) (s) o2 ([])) (And.intro (r14 (L) (j) (l) (n) (f) o0 (m) (g) o1 (k) (s) o2 ([])) (And.intro (show (bnot (r13.v L j l n f m g k s == r14.v L j l n f m g k s)) = false by rw [h3]; try rfl) (And.intro (r15 (L) (j) (l) (n) (f) o0 (m) (g) o1 ([])) (And.intro (show (bnot (r15.v L j l n f m g == 0)) = true by rw [h4]; try rfl) (And.intro h5 (And.intro h5 (And.intro h5 (And.intro h5 (And.intro h6 (And.intro h6 (And.intro h6 (And.intro h6 (And.intro h7 (And.intro h7 (And.intro h7 (And.intro h7 (And.intro (show (AV.bool ((↑(r12.v0 L j l n f m g).length : Int) == 0)) = ((AV.bool (r3.v L j l n f m g k s))) by first | (simp only [r3.v, h1, h2, h3, h4, h5, h6, h7, cond_true, cond_false]; done) | (try unfold r3.v; try simp only [h1, cond_true, cond_false]; try simp only [h2, cond_true, cond_false]; try simp only [h3, cond_true, cond_false]; try simp only [h4, cond_true, cond_false]; try simp only [h5, cond_true, cond_false]; try simp only [h6, cond_true, cond_false]; try simp only [h7, cond_true, cond_false]; try rfl; done) | rfl) trivial))))))))))))))))))))))))))))) h
              | false =>
                have h7p := ne_of_beq_false h7
                exact Ret.of_run1 mix [(AV.bool (r3.v L j l n f m g k s))] Try.func3 rfl [.ret (AV.bool true) ([]), .b false, .ret (AV.bool (r10.v L n m)) ([]), .b false, .b false, .b false, .b false, .b false, .ret (AV.tup [AV.sl 1 (r11.v0 L j l n f m g).length fun (a : Nat) => AV.int IntKind.i64 ((r11.v0 L j l n f m g).getD a 0), AV.int IntKind.i64 (r11.v1 L j l n f m g)]) ([]), .ret (AV.tup [AV.sl 1 (r12.v0 L j l n f m g).length fun (a : Nat) => AV.int IntKind.i64 ((r12.v0 L j l n f m g).getD a 0), AV.int IntKind.i64 (r12.v1 L j l n f m g)]) ([]), .ret (AV.bool (r13.v L j l n f m g k s)) ([]), .ret (AV.bool (r14.v L j l n f m g k s)) ([]), .b false, .ret (AV.int IntKind.i64 (r15.v L j l n f m g)) ([]), .b true, .b true, .b true, .b true, .b true, .b true, .b true, .b true, .b true, .b false, .b false, .b false, .b false] (by simp) (by simp) (kmp (by kernel_rfl) (And.intro (r9t ([])) (And.intro (rfl : false = false) (And.intro (r10 (L) (n) (f) o0 (m) (g) o1 ([])) (And.intro (show (bnot (r10.v L n m)) = false by rw [h1]; try rfl) (And.intro (show (bnot (r10.v L n m)) = false by rw [h1]; try rfl) (And.intro (show (bnot (r10.v L n m)) = false by rw [h1]; try rfl) (And.intro (show (bnot (r10.v L n m)) = false by rw [h1]; try rfl) (And.intro h2 (And.intro (r11 (L) (j) (l) (n) (f) o0 (m) (g) o1 ([])) (And.intro (r12 (L) (j) (l) (n) (f) o0 (m) (g) o1 ([])) (And.intro (r13 (L) (j) (l) (n) (f) o0 (m) (g) o1 (k) (s) o2 ([])) (And.intro (r14 (L) (j) (l) (n) (f) o0 (m) (g) o1 (k) (s) o2 ([])) (And.intro (show (bnot (r13.v L j l n f m g k s == r14.v L j l n f m g k s)) = false by rw [h3]; try rfl) (And.intro (r15 (L) (j) (l) (n) (f) o0 (m) (g) o1 ([])) (And.intro (show (bnot (r15.v L j l n f m g == 0)) = true by rw [h4]; try rfl) (And.intro h5 (And.intro h5 (And.intro h5 (And.intro h5 (And.intro h6 (And.intro h6 (And.intro h6 (And.intro h6 (And.intro h7 (And.intro h7 (And.intro h7 (And.intro h7 (And.intro (show (AV.bool false) = ((AV.bool (r3.v L j l n f m g k s))) by first | (simp only [r3.v, h1, h2, h3, h4, h5, h6, h7, cond_true, cond_false]; done) | (try unfold r3.v; try simp only [h1, cond_true, cond_false]; try simp only [h2, cond_true, cond_false]; try simp only [h3, cond_true, cond_false]; try simp only [h4, cond_true, cond_false]; try simp only [h5, cond_true, cond_false]; try simp only [h6, cond_true, cond_false]; try simp only [h7, cond_true, cond_false]; try rfl; done) | rfl) trivial))))))))))))))))))))))))))))) h
            | false =>
              have h6p := ne_of_beq_false h6
              exact Ret.of_run1 mix [(AV.bool (r3.v L j l n f m g k s))] Try.func3 rfl [.ret (AV.bool true) ([]), .b false, .ret (AV.bool (r10.v L n m)) ([]), .b false, .b false, .b false, .b false, .b false, .ret (AV.tup [AV.sl 1 (r11.v0 L j l n f m g).length fun (a : Nat) => AV.int IntKind.i64 ((r11.v0 L j l n f m g).getD a 0), AV.int IntKind.i64 (r11.v1 L j l n f m g)]) ([]), .ret (AV.tup [AV.sl 1 (r12.v0 L j l n f m g).length fun (a : Nat) => AV.int IntKind.i64 ((r12.v0 L j l n f m g).getD a 0), AV.int IntKind.i64 (r12.v1 L j l n f m g)]) ([]), .ret (AV.bool (r13.v L j l n f m g k s)) ([]), .ret (AV.bool (r14.v L j l n f m g k s)) ([]), .b false, .ret (AV.int IntKind.i64 (r15.v L j l n f m g)) ([]), .b true, .b true, .b true, .b true, .b true, .b false, .b false, .b false, .b false, .b false, .b false, .b false, .b false] (by simp) (by simp) (kmp (by kernel_rfl) (And.intro (r9t ([])) (And.intro (rfl : false = false) (And.intro (r10 (L) (n) (f) o0 (m) (g) o1 ([])) (And.intro (show (bnot (r10.v L n m)) = false by rw [h1]; try rfl) (And.intro (show (bnot (r10.v L n m)) = false by rw [h1]; try rfl) (And.intro (show (bnot (r10.v L n m)) = false by rw [h1]; try rfl) (And.intro (show (bnot (r10.v L n m)) = false by rw [h1]; try rfl) (And.intro h2 (And.intro (r11 (L) (j) (l) (n) (f) o0 (m) (g) o1 ([])) (And.intro (r12 (L) (j) (l) (n) (f) o0 (m) (g) o1 ([])) (And.intro (r13 (L) (j) (l) (n) (f) o0 (m) (g) o1 (k) (s) o2 ([])) (And.intro (r14 (L) (j) (l) (n) (f) o0 (m) (g) o1 (k) (s) o2 ([])) (And.intro (show (bnot (r13.v L j l n f m g k s == r14.v L j l n f m g k s)) = false by rw [h3]; try rfl) (And.intro (r15 (L) (j) (l) (n) (f) o0 (m) (g) o1 ([])) (And.intro (show (bnot (r15.v L j l n f m g == 0)) = true by rw [h4]; try rfl) (And.intro h5 (And.intro h5 (And.intro h5 (And.intro h5 (And.intro h6 (And.intro h6 (And.intro h6 (And.intro h6 (And.intro (rfl : false = false) (And.intro (rfl : false = false) (And.intro (rfl : false = false) (And.intro (rfl : false = false) (And.intro (show (AV.bool false) = ((AV.bool (r3.v L j l n f m g k s))) by first | (simp only [r3.v, h1, h2, h3, h4, h5, h6, cond_true, cond_false]; done) | (try unfold r3.v; try simp only [h1, cond_true, cond_false]; try simp only [h2, cond_true, cond_false]; try simp only [h3, cond_true, cond_false]; try simp only [h4, cond_true, cond_false]; try simp only [h5, cond_true, cond_false]; try simp only [h6, cond_true, cond_false]; try rfl; done) | rfl) trivial))))))))))))))))))))))))))))) h
          | false =>
            have h5p := ne_of_beq_false h5
            exact Ret.of_run1 mix [(AV.bool (r3.v L j l n f m g k s))] Try.func3 rfl [.ret (AV.bool true) ([]), .b false, .ret (AV.bool (r10.v L n m)) ([]), .b false, .b false, .b false, .b false, .b false, .ret (AV.tup [AV.sl 1 (r11.v0 L j l n f m g).length fun (a : Nat) => AV.int IntKind.i64 ((r11.v0 L j l n f m g).getD a 0), AV.int IntKind.i64 (r11.v1 L j l n f m g)]) ([]), .ret (AV.tup [AV.sl 1 (r12.v0 L j l n f m g).length fun (a : Nat) => AV.int IntKind.i64 ((r12.v0 L j l n f m g).getD a 0), AV.int IntKind.i64 (r12.v1 L j l n f m g)]) ([]), .ret (AV.bool (r13.v L j l n f m g k s)) ([]), .ret (AV.bool (r14.v L j l n f m g k s)) ([]), .b false, .ret (AV.int IntKind.i64 (r15.v L j l n f m g)) ([]), .b true, .b false, .b false, .b false, .b false, .b false, .b false, .b false, .b false, .b false, .b false, .b false, .b false] (by simp) (by simp) (kmp (by kernel_rfl) (And.intro (r9t ([])) (And.intro (rfl : false = false) (And.intro (r10 (L) (n) (f) o0 (m) (g) o1 ([])) (And.intro (show (bnot (r10.v L n m)) = false by rw [h1]; try rfl) (And.intro (show (bnot (r10.v L n m)) = false by rw [h1]; try rfl) (And.intro (show (bnot (r10.v L n m)) = false by rw [h1]; try rfl) (And.intro (show (bnot (r10.v L n m)) = false by rw [h1]; try rfl) (And.intro h2 (And.intro (r11 (L) (j) (l) (n) (f) o0 (m) (g) o1 ([])) (And.intro (r12 (L) (j) (l) (n) (f) o0 (m) (g) o1 ([])) (And.intro (r13 (L) (j) (l) (n) (f) o0 (m) (g) o1 (k) (s) o2 ([])) (And.intro (r14 (L) (j) (l) (n) (f) o0 (m) (g) o1 (k) (s) o2 ([])) (And.intro (show (bnot (r13.v L j l n f m g k s == r14.v L j l n f m g k s)) = false by rw [h3]; try rfl) (And.intro (r15 (L) (j) (l) (n) (f) o0 (m) (g) o1 ([])) (And.intro (show (bnot (r15.v L j l n f m g == 0)) = true by rw [h4]; try rfl) (And.intro h5 (And.intro h5 (And.intro h5 (And.intro h5 (And.intro (rfl : false = false) (And.intro (rfl : false = false) (And.intro (rfl : false = false) (And.intro (rfl : false = false) (And.intro (rfl : false = false) (And.intro (rfl : false = false) (And.intro (rfl : false = false) (And.intro (rfl : false = false) (And.intro (show (AV.bool false) = ((AV.bool (r3.v L j l n f m g k s))) by first | (simp only [r3.v, h1, h2, h3, h4, h5, cond_true, cond_false]; done) | (try unfold r3.v; try simp only [h1, cond_true, cond_false]; try simp only [h2, cond_true, cond_false]; try simp only [h3, cond_true, cond_false]; try simp only [h4, cond_true, cond_false]; try simp only [h5, cond_true, cond_false]; try rfl; done) | rfl) trivial))))))))))))))))))))))))))))) h
      | false =>
        exact Ret.of_run1 mix [(AV.bool (r3.v L j l n f m g k s))] Try.func3 rfl [.ret (AV.bool true) ([]), .b false, .ret (AV.bool (r10.v L n m)) ([]), .b false, .b false, .b false, .b false, .b false, .ret (AV.tup [AV.sl 1 (r11.v0 L j l n f m g).length fun (a : Nat) => AV.int IntKind.i64 ((r11.v0 L j l n f m g).getD a 0), AV.int IntKind.i64 (r11.v1 L j l n f m g)]) ([]), .ret (AV.tup [AV.sl 1 (r12.v0 L j l n f m g).length fun (a : Nat) => AV.int IntKind.i64 ((r12.v0 L j l n f m g).getD a 0), AV.int IntKind.i64 (r12.v1 L j l n f m g)]) ([]), .ret (AV.bool (r13.v L j l n f m g k s)) ([]), .ret (AV.bool (r14.v L j l n f m g k s)) ([]), .b true] (by simp) (by simp) (kmp (by kernel_rfl) (And.intro (r9t ([])) (And.intro (rfl : false = false) (And.intro (r10 (L) (n) (f) o0 (m) (g) o1 ([])) (And.intro (show (bnot (r10.v L n m)) = false by rw [h1]; try rfl) (And.intro (show (bnot (r10.v L n m)) = false by rw [h1]; try rfl) (And.intro (show (bnot (r10.v L n m)) = false by rw [h1]; try rfl) (And.intro (show (bnot (r10.v L n m)) = false by rw [h1]; try rfl) (And.intro h2 (And.intro (r11 (L) (j) (l) (n) (f) o0 (m) (g) o1 ([])) (And.intro (r12 (L) (j) (l) (n) (f) o0 (m) (g) o1 ([])) (And.intro (r13 (L) (j) (l) (n) (f) o0 (m) (g) o1 (k) (s) o2 ([])) (And.intro (r14 (L) (j) (l) (n) (f) o0 (m) (g) o1 (k) (s) o2 ([])) (And.intro (show (bnot (r13.v L j l n f m g k s == r14.v L j l n f m g k s)) = true by rw [h3]; try rfl) (And.intro (show (AV.bool false) = ((AV.bool (r3.v L j l n f m g k s))) by first | (simp only [r3.v, h1, h2, h3, cond_true, cond_false]; done) | (try unfold r3.v; try simp only [h1, cond_true, cond_false]; try simp only [h2, cond_true, cond_false]; try simp only [h3, cond_true, cond_false]; try rfl; done) | rfl) trivial))))))))))))))) h
  | false =>
    exact Ret.of_run1 mix [(AV.bool (r3.v L j l n f m g k s))] Try.func3 rfl [.ret (AV.bool true) ([]), .b false, .ret (AV.bool (r10.v L n m)) ([]), .b true, .b true, .b true, .b true, .b true] (by simp) (by simp) (kmp (by kernel_rfl) (And.intro (r9t ([])) (And.intro (rfl : false = false) (And.intro (r10 (L) (n) (f) o0 (m) (g) o1 ([])) (And.intro (show (bnot (r10.v L n m)) = true by rw [h1]; try rfl) (And.intro (show (bnot (r10.v L n m)) = true by rw [h1]; try rfl) (And.intro (show (bnot (r10.v L n m)) = true by rw [h1]; try rfl) (And.intro (show (bnot (r10.v L n m)) = true by rw [h1]; try rfl) (And.intro (rfl : true = true) (And.intro (show (AV.bool true) = ((AV.bool (r3.v L j l n f m g k s))) by first | (simp only [r3.v, h1, cond_true, cond_false]; done) | (try unfold r3.v; try simp only [h1, cond_true, cond_false]; try rfl; done) | rfl) trivial)))))))))) h

end Go.Proofs.Ytjdbmmilcihpoaa

/- The law of layouts, in plain words. Conditions: none. -/
open Go
namespace Go.Proofs.Ytjdbmmilcihpoaa
set_option linter.unusedVariables false
set_option linter.unusedSimpArgs false
variable {L j l : Int} {n m k : Nat} {f g s : Nat → Int}

theorem L17_same (n : Nat) (f : Nat → Int) (hn : n ≤ 9223372036854775807) : ∀ m c, c ≤ n → n - c < m → L17a.N n f f m (c : Int) = .e1 := by
  intro m
  induction m with
  | zero => intro c _ h; omega
  | succ m ih =>
    intro c hc hm
    simp only [L17a.N, beq_self_eq_true, cond_true]
    by_cases h : c < n
    · rw [decide_eq_true (show (c : Int) < (n : Int) by omega), wrap_succ hn h]
      exact ih (c + 1) h (by omega)
    · rw [decide_eq_false (by omega)]
      rfl
theorem r17_same (l : List Int) (h : l.length ≤ 9223372036854775807) : r17.v l.length (fun i => l.getD i 0) l.length (fun i => l.getD i 0) = true := by
  unfold r17.v L17a.run
  have e := L17_same l.length (fun i => l.getD i 0) h (l.length + 1) 0 (Nat.zero_le _) (by omega)
  have e' : L17a.N l.length (fun i => l.getD i 0) (fun i => l.getD i 0) ((((l.length : Int) - 0).toNat) + 1) 0 = .e1 := by
    rw [show (((l.length : Int) - 0).toNat) + 1 = l.length + 1 by omega]; exact e
  rw [e']
  simp

theorem r3_true (hn : n ≤ 9223372036854775807) (hm : m ≤ 9223372036854775807) (hk : k ≤ 9223372036854775807) : r3.v L j l n f m g k s = true := by
  unfold r3.v
  cases r10.v L n m with
  | false => rfl
  | true =>
    cases decide ((k : Int) > 40) with
    | true => rfl
    | false =>
      rw [r13_same hn hm hk, legal_same hn hm, beq_self_eq_true]
      simp only [cond_true, cond_false]
      cases hz : (r32.v L j l n f m g == 0) with
      | false =>
        have e1 : r11.v1 L j l n f m g = r32.v L j l n f m g := by unfold r11.v1; rw [hz]; rfl
        have e2 : r11.v0 L j l n f m g = [] := by unfold r11.v0; rw [hz]; rfl
        have e3 : r12.v1 L j l n f m g = r32.v L j l n f m g := by unfold r12.v1; rw [hz]; rfl
        have e4 : r12.v0 L j l n f m g = [] := by unfold r12.v0; rw [hz]; rfl
        rw [e1, e2, e3, e4]
        simp
      | true =>
        obtain ⟨p1, p2⟩ := reach_same hn hm hz
        have hl := lens_ok hn hm hz
        have q := r17_same (r18.v L j l n f m g) (by omega)
        obtain ⟨xs, hf, h, hc⟩ := layout_cases hn hm hz
        rcases hc with ⟨_, a1, a2, a3⟩ | ⟨hx, R, hR, a1, a2, a3⟩
        · rw [a1, a2, a3, p1, p2, q]
          rfl
        · have hlR : R.length ≤ 20001 := by have := hl.1; rwa [a1] at this
          have hne : R.length ≠ 0 := fun e => hR.ne (List.length_eq_zero_iff.1 e)
          rw [a1, a2, a3, p1, p2, q, r17_same R (by omega), show ((R.length : Int) == 0) = false from beq_eq_false_iff_ne.2 (by omega), decide_eq_true (show (R.length : Int) > 0 by omega)]
          rfl
end Go.Proofs.Ytjdbmmilcihpoaa

/- WallLayouts: whatever the input, the law hands back true. Conditions: none. -/
open Go
namespace Go.Proofs.Ytjdbmmilcihpoaa
open Go.ChangeShapes Go.WideShapes Go.ChangeAt Go.RowKit

set_option maxRecDepth 100000 in
theorem law3 (xs : List AV) (h : FitsA Try.prog 5 [3, 3, 3, 22, 22, 22] xs) : Ret Try.prog 3 xs [] (.bool true) [] := by
  obtain ⟨x0, x1, x2, x3, x4, x5, rfl, h0, h1, h2, h3, h4, h5⟩ := fitsA6 h
  obtain ⟨u0, rfl⟩ := arg_int h0
  obtain ⟨u1, rfl⟩ := arg_int h1
  obtain ⟨u2, rfl⟩ := arg_int h2
  obtain ⟨m3, f3, hm3, i3⟩ := arg_ints h3
  obtain ⟨m4, f4, hm4, i4⟩ := arg_ints h4
  obtain ⟨m5, f5, hm5, i5⟩ := arg_ints h5
  have := r3 u0 u1 u2 m3 f3 hm3 m4 f4 hm4 m5 f5 hm5 []
  rw [r3_true hm3 hm4 hm5] at this
  exact this.imp (.cons (.refl _) (.cons (.refl _) (.cons (.refl _) (.cons i3 (.cons i4 (.cons i5 .nil))))))

set_option maxRecDepth 100000 in
theorem wallLayouts_lifted (os : Os) (started : os.Started) (H : Type) (enc : TypeId × Value → H) :
    ReturnsInHanded {} Try.checked os 3 .any (Rows.wallLayoutsSpec.pre6 enc Try.prog Try.f3 Rows.wallLayoutsRow.domain false) (Rows.wallLayoutsSpec.post enc Try.prog Try.f3 false true false false) :=
  lifted (C := Try.checked) 5 own started (by kernel_rfl) Try.func3
    (ChangeSpec.witness6 (enc := enc) (C := Try.checked) false ⟨#[], #[.int .i64 0, .int .i64 0, .int .i64 0, .slice none 0 0, .slice none 0 0, .slice none 0 0], []⟩ 8 (by kernel_rfl) (by kernel_rfl) (by kernel_rfl) (by kernel_rfl))
    rfl (fun ds hd => by
      match ds, hd with
      | [_, _, _, _, _, _], _ => rfl) (rt := 4) (by kernel_rfl) (by kernel_rfl) laidOut (by kernel_rfl) law3

theorem wallLayouts_holds : Rows.WallLayoutsSaid :=
  OpenClaim.holds_of_wide 3 Try.f3 rfl rfl rfl rfl rfl rfl rfl ⟨rfl, rfl, rfl, rfl, rfl⟩ rfl rfl rfl rfl rfl (by kernel_rfl) Try.func3 (by kernel_rfl)
    (of_decide_eq_true (by kernel_rfl)) (by unfold Func.isWrapper; first | (rw [if_pos (by decide +kernel)]; kernel_rfl) | (rw [if_neg (by decide +kernel)]; exact ⟨rfl, rfl⟩))
    (fun os started H enc _ => wallLayouts_lifted os started H enc)
#print axioms wallLayouts_holds
end Go.Proofs.Ytjdbmmilcihpoaa
