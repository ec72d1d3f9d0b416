/- WallCourses: whatever the input, the law hands back true. Conditions: none. -/
import Derived.Test.Ytjdbmmilcihpoaa73

open Go
namespace Go.Proofs.Ytjdbmmilcihpoaa
set_option linter.unusedSimpArgs false
set_option linter.unusedVariables false
set_option maxHeartbeats 0
set_option maxRecDepth 100000
inductive L12ab.O where
 | e0 (a0 : List Bool)
noncomputable def L12ab.T (L : Int) (j : Int) (l : Int) (n : Nat) (f : Nat → Int) (m : Nat) (g : Nat → Int) (av14 : Nat) (al14 : List Int) (a35 : Int) (ar0 : List Bool) (b48 : Int) (br0 : List Bool) : List AV := mkT 84 [(0, iv L), (1, iv j), (2, iv l), (3, AV.sl 1 n fun (i : Nat) => iv (f i)), (4, AV.sl 1 m fun (i : Nat) => iv (g i)), (13, AV.ms 0 L.toNat 1 0 L.toNat), (14, AV.ms 1 (av14 + 1) 1 0 ((Col.ints IntKind.i64 al14).join AppMode.one 1 fun (a : Nat) => (Col.ofList [iv a35]).get a).len), (15, iv a35), (33, AV.ms 0 L.toNat 1 0 L.toNat), (34, iv (↑L.toNat : Int)), (35, iv a35), (46, AV.sl 1 n fun (i : Nat) => iv (f i)), (47, iv (↑n : Int)), (48, iv b48)]
noncomputable def L12ab.H (L : Int) (j : Int) (l : Int) (n : Nat) (f : Nat → Int) (m : Nat) (g : Nat → Int) (av14 : Nat) (al14 : List Int) (a35 : Int) (ar0 : List Bool) (b48 : Int) (br0 : List Bool) : AHeap := [AObj.row 1 L.toNat (Col.bools br0), AObj.row 1 (av14 + 1) (Col.ints IntKind.i64 (al14 ++ [a35]))]
def L12ab.inv (L : Int) (j : Int) (l : Int) (n : Nat) (f : Nat → Int) (m : Nat) (g : Nat → Int) (av14 : Nat) (al14 : List Int) (a35 : Int) (ar0 : List Bool) (b48 : Int) (br0 : List Bool) : Prop := 0 ≤ b48 ∧ (b48 ≤ (↑n : Int) ∨ b48 ≤ 0) ∧ br0.length = ar0.length
noncomputable def L12ab.mu (L : Int) (j : Int) (l : Int) (n : Nat) (f : Nat → Int) (m : Nat) (g : Nat → Int) (av14 : Nat) (al14 : List Int) (a35 : Int) (ar0 : List Bool) (b48 : Int) (br0 : List Bool) : Nat := ((↑n : Int) - b48).toNat
noncomputable def L12ab.E : L12ab.O → Exit
 | .e0 a0 => Exit.exit 2
noncomputable def L12ab.X (L : Int) (j : Int) (l : Int) (n : Nat) (f : Nat → Int) (m : Nat) (g : Nat → Int) (av14 : Nat) (al14 : List Int) (a35 : Int) (ar0 : List Bool) : L12ab.O → List AV
 | .e0 a0 => mkT 84 [(0, (iv L)), (1, (iv j)), (2, (iv l)), (3, (AV.sl 1 n fun (i : Nat) => iv (f i))), (4, (AV.sl 1 m fun (i : Nat) => iv (g i))), (13, (AV.ms 0 L.toNat 1 0 L.toNat)), (14, (AV.ms 1 (av14 + 1) 1 0 (al14 ++ [a35]).length)), (33, (AV.ms 0 L.toNat 1 0 L.toNat)), (34, (iv (↑L.toNat : Int))), (35, (iv a35))]
noncomputable def L12ab.XH (L : Int) (j : Int) (l : Int) (n : Nat) (f : Nat → Int) (m : Nat) (g : Nat → Int) (av14 : Nat) (al14 : List Int) (a35 : Int) (ar0 : List Bool) : L12ab.O → AHeap
 | .e0 a0 => ((AObj.row 1 (L.toNat) (Col.bools a0)) :: ([AObj.row 1 (av14 + 1) (Col.ints IntKind.i64 (al14 ++ [a35]))]))
noncomputable def L12ab.N (L : Int) (j : Int) (l : Int) (n : Nat) (f : Nat → Int) (m : Nat) (g : Nat → Int) (a35 : Int) : Nat → Int → (List Bool) → L12ab.O
 | 0, _, br0 => .e0 br0
 | k_ + 1, b48, br0 => (bif decide (b48 < (↑n : Int)) then (bif decide (IntKind.i64.wrap (IntKind.i64.wrap (a35 + f b48.toNat) + j) < L) then (bif br0.getD (0 + (IntKind.i64.wrap (IntKind.i64.wrap (a35 + f b48.toNat) + j)).toNat) false then (L12ab.N L j l n f m g a35 k_ (IntKind.i64.wrap (b48 + 1)) (br0)) else (bif r34.v (IntKind.i64.wrap (a35 + f b48.toNat)) j l m g then (L12ab.N L j l n f m g a35 k_ (IntKind.i64.wrap (b48 + 1)) (br0.set (0 + (IntKind.i64.wrap (IntKind.i64.wrap (a35 + f b48.toNat) + j)).toNat) true)) else (L12ab.N L j l n f m g a35 k_ (IntKind.i64.wrap (b48 + 1)) (br0)))) else (L12ab.N L j l n f m g a35 k_ (IntKind.i64.wrap (b48 + 1)) (br0))) else (.e0 (br0)))
noncomputable def L12ab.run (L : Int) (j : Int) (l : Int) (n : Nat) (f : Nat → Int) (m : Nat) (g : Nat → Int) (a35 : Int) (b48 : Int) (br0 : List Bool) : L12ab.O := L12ab.N L j l n f m g a35 ((((↑n : Int) - b48).toNat) + 1) b48 br0
theorem L12ab.nx (L : Int) (j : Int) (l : Int) (n : Nat) (f : Nat → Int) (m : Nat) (g : Nat → Int) (av14 : Nat) (al14 : List Int) (a35 : Int) (ar0 : List Bool) {k_ : Nat} {z_ : Int × (List Bool)} {h_ : AHeap} (s_ : Int × (List Bool)) (h1 : L12ab.inv L j l n f m g av14 al14 a35 ar0 s_.1 s_.2) (h2 : L12ab.mu L j l n f m g av14 al14 a35 ar0 s_.1 s_.2 < L12ab.mu L j l n f m g av14 al14 a35 ar0 z_.1 z_.2) (h3 : L12ab.N L j l n f m g a35 k_ s_.1 s_.2 = L12ab.N L j l n f m g a35 (k_ + 1) z_.1 z_.2) (h4 : PopOk (L12ab.H L j l n f m g av14 al14 a35 ar0 z_.1 z_.2) h_ (L12ab.T L j l n f m g av14 al14 a35 ar0 s_.1 s_.2) (L12ab.H L j l n f m g av14 al14 a35 ar0 s_.1 s_.2)) : LNextP (fun (z_ : Int × (List Bool)) => L12ab.T L j l n f m g av14 al14 a35 ar0 z_.1 z_.2) (fun (z_ : Int × (List Bool)) => L12ab.H L j l n f m g av14 al14 a35 ar0 z_.1 z_.2) (fun (z_ : Int × (List Bool)) => L12ab.inv L j l n f m g av14 al14 a35 ar0 z_.1 z_.2) (fun (z_ : Int × (List Bool)) => L12ab.mu L j l n f m g av14 al14 a35 ar0 z_.1 z_.2) (fun (k_ : Nat) (z_ : Int × (List Bool)) => L12ab.N L j l n f m g a35 k_ z_.1 z_.2) k_ z_ (L12ab.T L j l n f m g av14 al14 a35 ar0 s_.1 s_.2) h_ := LNextP.mk s_ h1 h2 h3 h4
theorem L12ab.en (L : Int) (j : Int) (l : Int) (n : Nat) (f : Nat → Int) (m : Nat) (g : Nat → Int) (av14 : Nat) (al14 : List Int) (a35 : Int) (ar0 : List Bool) {k_ : Nat} {z_ : Int × (List Bool)} {h_ : AHeap} (o_ : L12ab.O) (h3 : L12ab.N L j l n f m g a35 (k_ + 1) z_.1 z_.2 = o_) (h4 : PopOk (L12ab.H L j l n f m g av14 al14 a35 ar0 z_.1 z_.2) h_ (L12ab.X L j l n f m g av14 al14 a35 ar0 o_) (L12ab.XH L j l n f m g av14 al14 a35 ar0 o_)) : LEndP (fun (z_ : Int × (List Bool)) => L12ab.H L j l n f m g av14 al14 a35 ar0 z_.1 z_.2) (fun (k_ : Nat) (z_ : Int × (List Bool)) => L12ab.N L j l n f m g a35 k_ z_.1 z_.2) L12ab.E (L12ab.X L j l n f m g av14 al14 a35 ar0) (L12ab.XH L j l n f m g av14 al14 a35 ar0) k_ z_ (L12ab.E o_) (L12ab.X L j l n f m g av14 al14 a35 ar0 o_) h_ := LEndP.mk o_ h3 h4
noncomputable abbrev L12ab.h0 (L : Int) (j : Int) (l : Int) (n : Nat) (f : Nat → Int) (m : Nat) (g : Nat → Int) (av14 : Nat) (al14 : List Int) (a35 : Int) (ar0 : List Bool) (b48 : Int) (br0 : List Bool) : AHeap := ([AObj.row 1 L.toNat (Col.bools br0), AObj.row 1 (av14 + 1) (Col.ints IntKind.i64 (al14 ++ [a35]))])
theorem L12ab.spec (L : Int) (j : Int) (l : Int) (n : Nat) (f : Nat → Int) (hn : n ≤ 9223372036854775807) (m : Nat) (g : Nat → Int) (hm : m ≤ 9223372036854775807) (k0_1 : (r32.v L j l n f m g == 0) = true) (p0_1 : r32.v L j l n f m g = 0) (av14 : Nat) (al14 : List Int) (a35 : Int) (ar0 : List Bool) (i12a_0 : 0 ≤ a35) (i12a_1 : a35 ≤ (↑L.toNat : Int) ∨ a35 ≤ 0) (i12a_2 : (↑al14.length : Int) ≤ 1000000 * (a35 - 0)) (i12a_3 : ar0.length = ((List.replicate L.toNat false).set 0 true).length) (k1_1 : decide (a35 < (↑L.toNat : Int)) = true) (p1_1 : a35 < (↑L.toNat : Int)) (k1_2 : ar0.getD (0 + a35.toNat) false = true) (k_ : Nat) (z_ : Int × (List Bool)) (hi_ : L12ab.inv L j l n f m g av14 al14 a35 ar0 z_.1 z_.2) (hm_ : L12ab.mu L j l n f m g av14 al14 a35 ar0 z_.1 z_.2 < k_) : LoopTo Try.prog (loopN Try.f12 1) (L12ab.T L j l n f m g av14 al14 a35 ar0 z_.1 z_.2) (L12ab.H L j l n f m g av14 al14 a35 ar0 z_.1 z_.2) (L12ab.E (L12ab.N L j l n f m g a35 k_ z_.1 z_.2)) (L12ab.X L j l n f m g av14 al14 a35 ar0 (L12ab.N L j l n f m g a35 k_ z_.1 z_.2)) (L12ab.XH L j l n f m g av14 al14 a35 ar0 (L12ab.N L j l n f m g a35 k_ z_.1 z_.2)) := by
 refine LoopTo.fuelP mix (fun (z_ : Int × (List Bool)) => L12ab.T L j l n f m g av14 al14 a35 ar0 z_.1 z_.2) (fun (z_ : Int × (List Bool)) => L12ab.H L j l n f m g av14 al14 a35 ar0 z_.1 z_.2) (fun (z_ : Int × (List Bool)) => L12ab.inv L j l n f m g av14 al14 a35 ar0 z_.1 z_.2) (fun (z_ : Int × (List Bool)) => L12ab.mu L j l n f m g av14 al14 a35 ar0 z_.1 z_.2) (fun (k_ : Nat) (z_ : Int × (List Bool)) => L12ab.N L j l n f m g a35 k_ z_.1 z_.2) L12ab.E (L12ab.X L j l n f m g av14 al14 a35 ar0) (L12ab.XH L j l n f m g av14 al14 a35 ar0) (others 84 [0, 1, 2, 3, 4, 13, 14, 15, 33, 34, 35, 46, 47, 48]) (others 84 [10, 11]) (others 84 [0, 1, 2, 3, 4, 13, 14, 33, 34, 35]) ?_ k_ z_ hi_ hm_
 clear hm_ hi_ z_ k_
 intro k_ z_ hinv hmu
 obtain ⟨b48, br0⟩ := z_
 have hinv : 0 ≤ b48 ∧ (b48 ≤ (↑n : Int) ∨ b48 ≤ 0) ∧ br0.length = ar0.length := hinv
 have hmu : (((↑n : Int) - b48).toNat) < k_ + 1 := hmu
 cases h1 : decide (b48 < (↑n : Int)) with
 | true =>
  have h1p := of_decide_eq_true h1
  try have := bd_ok (by assumption) (by assumption) (by assumption)
  try have := bd_len (by assumption)
  try have := bd_sz (by assumption) (by assumption) (by omega)
  have o0 : (0 : Int) ≤ b48 := by omega
  have o1 : b48 < (↑n : Int) := by assumption
  cases h2 : decide (IntKind.i64.wrap (IntKind.i64.wrap (a35 + f b48.toNat) + j) < L) with
  | true =>
   have h2p := of_decide_eq_true h2
   try have := bd_ok (by assumption) (by assumption) (by assumption)
   try have := bd_len (by assumption)
   try have := bd_sz (by assumption) (by assumption) (by assumption)
   try have := IntWalk.i64_in (a35 + f b48.toNat) (by omega)
   try have := IntWalk.i64_in (IntKind.i64.wrap (a35 + f b48.toNat) + j) (by omega)
   have o2 : (0 : Int) ≤ IntKind.i64.wrap (IntKind.i64.wrap (a35 + f b48.toNat) + j) := by first | assumption | omega | (apply wr_0 <;> first | assumption | omega) | (simp_all; done)
   have o3 : IntKind.i64.wrap (IntKind.i64.wrap (a35 + f b48.toNat) + j) < (↑L.toNat : Int) := by omega
   have o4 : (0 : Nat) + (IntKind.i64.wrap (IntKind.i64.wrap (a35 + f b48.toNat) + j)).toNat < (Col.bools br0).len := by simp only [Col.len, zero_bool, zero_int, List.length_replicate, List.length_set] at *; omega
   cases h3 : br0.getD (0 + (IntKind.i64.wrap (IntKind.i64.wrap (a35 + f b48.toNat) + j)).toNat) false with
   | true =>
    try have := bd_ok (by assumption) (by assumption) (by assumption)
    try have := bd_len (by assumption)
    try have := bd_sz (by assumption) (by assumption) (by assumption)
    try have := IntWalk.i64_in (b48 + 1) (by omega)
    have o5 : (0 : Int) ≤ IntKind.i64.wrap (b48 + (1 : Int)) := by omega
    have o6 : IntKind.i64.wrap (b48 + (1 : Int)) ≤ (↑n : Int) ∨ IntKind.i64.wrap (b48 + (1 : Int)) ≤ (0 : Int) := by omega
    have o7 : br0.length = ar0.length := by omega
    have o8 : ((↑n : Int) - IntKind.i64.wrap (b48 + (1 : Int))).toNat < ((↑n : Int) - b48).toNat := by omega
    exact ⟨[.b true, .b true, .b true, .b true, .b true, .b true, .b true, .b true, .b true, .b false, .b false, .b false, .b false, .b false, .b false, .b false], kmp (by kernel_rfl) (Ai h1 (Ai (Ai o0 o1) (Ai h2 (Ai h2 (Ai h2 (Ai h2 (Ai h2 (Ai (Ai o2 o3) (Ai h2 (Ai (Ai (rfl : L.toNat = L.toNat) (Ai (show (1 : Nat) = (1 : Nat) by decide) o4)) (Ai h2 (Ai h2 (Ai (show (bnot (br0.getD (0 + (IntKind.i64.wrap (IntKind.i64.wrap (a35 + f b48.toNat) + j)).toNat) false)) = false by rw [h3]; try rfl) (Ai (show (bnot (br0.getD (0 + (IntKind.i64.wrap (IntKind.i64.wrap (a35 + f b48.toNat) + j)).toNat) false)) = false by rw [h3]; try rfl) (Ai (show (bnot (br0.getD (0 + (IntKind.i64.wrap (IntKind.i64.wrap (a35 + f b48.toNat) + j)).toNat) false)) = false by rw [h3]; try rfl) (Ai (show (bnot (br0.getD (0 + (IntKind.i64.wrap (IntKind.i64.wrap (a35 + f b48.toNat) + j)).toNat) false)) = false by rw [h3]; try rfl) (Ai (show (bnot (br0.getD (0 + (IntKind.i64.wrap (IntKind.i64.wrap (a35 + f b48.toNat) + j)).toNat) false)) = false by rw [h3]; try rfl) (Ai (show (bnot (br0.getD (0 + (IntKind.i64.wrap (IntKind.i64.wrap (a35 + f b48.toNat) + j)).toNat) false)) = false by rw [h3]; try rfl) (Ai (rfl : false = false) (L12ab.nx L j l n f m g av14 al14 a35 ar0 (k_ := k_) (z_ := (b48, br0)) ((IntKind.i64.wrap (b48 + 1), br0)) (Ai o5 (Ai o6 o7)) o8 (by simp only [L12ab.N, h1, h2, h3, cond_true, cond_false]) PopOk.same))))))))))))))))))))⟩
   | false =>
    try have := bd_ok (by assumption) (by assumption) (by assumption)
    try have := bd_len (by assumption)
    try have := bd_sz (by assumption) (by assumption) (by assumption)
    have o9 : m ≤ (9223372036854775807 : Nat) := by assumption
    cases h4 : r34.v (IntKind.i64.wrap (a35 + f b48.toNat)) j l m g with
    | true =>
     try have := bd_ok (by assumption) (by assumption) (by assumption)
     try have := bd_len (by assumption)
     try have := bd_sz (by assumption) (by assumption) (by assumption)
     try have := IntWalk.i64_in (b48 + 1) (by omega)
     have o5 : (0 : Int) ≤ IntKind.i64.wrap (b48 + (1 : Int)) := by omega
     have o6 : IntKind.i64.wrap (b48 + (1 : Int)) ≤ (↑n : Int) ∨ IntKind.i64.wrap (b48 + (1 : Int)) ≤ (0 : Int) := by omega
     try have := IntWalk.i64_in (a35 + f b48.toNat) (by omega)
     try have := IntWalk.i64_in (IntKind.i64.wrap (a35 + f b48.toNat) + j) (by omega)
     have o10 : (br0.set ((0 : Nat) + (IntKind.i64.wrap (IntKind.i64.wrap (a35 + f b48.toNat) + j)).toNat) true).length = ar0.length := by simp_all
     have o8 : ((↑n : Int) - IntKind.i64.wrap (b48 + (1 : Int))).toNat < ((↑n : Int) - b48).toNat := by omega
     exact ⟨[.b true, .b true, .b true, .b true, .b true, .b true, .b true, .b true, .b true, .b true, .b true, .b true, .b true, .b true, .ret (AV.bool (r34.v (IntKind.i64.wrap (a35 + f b48.toNat)) j l m g)) (L12ab.h0 L j l n f m g av14 al14 a35 ar0 b48 br0), .b true, .b true], kmp (by kernel_rfl) (Ai h1 (Ai (Ai o0 o1) (Ai h2 (Ai h2 (Ai h2 (Ai h2 (Ai h2 (Ai (Ai o2 o3) (Ai h2 (Ai (Ai (rfl : L.toNat = L.toNat) (Ai (show (1 : Nat) = (1 : Nat) by decide) o4)) (Ai h2 (Ai h2 (Ai (show (bnot (br0.getD (0 + (IntKind.i64.wrap (IntKind.i64.wrap (a35 + f b48.toNat) + j)).toNat) false)) = true by rw [h3]; try rfl) (Ai (show (bnot (br0.getD (0 + (IntKind.i64.wrap (IntKind.i64.wrap (a35 + f b48.toNat) + j)).toNat) false)) = true by rw [h3]; try rfl) (Ai (show (bnot (br0.getD (0 + (IntKind.i64.wrap (IntKind.i64.wrap (a35 + f b48.toNat) + j)).toNat) false)) = true by rw [h3]; try rfl) (Ai (show (bnot (br0.getD (0 + (IntKind.i64.wrap (IntKind.i64.wrap (a35 + f b48.toNat) + j)).toNat) false)) = true by rw [h3]; try rfl) (Ai (show (bnot (br0.getD (0 + (IntKind.i64.wrap (IntKind.i64.wrap (a35 + f b48.toNat) + j)).toNat) false)) = true by rw [h3]; try rfl) (Ai (r34 (IntKind.i64.wrap (a35 + f b48.toNat)) (j) (l) (m) (g) o9 (L12ab.h0 L j l n f m g av14 al14 a35 ar0 b48 br0)) (Ai (show (bnot (br0.getD (0 + (IntKind.i64.wrap (IntKind.i64.wrap (a35 + f b48.toNat) + j)).toNat) false)) = true by rw [h3]; try rfl) (Ai h4 (Ai (Ai o2 o3) (Ai (Ai (rfl : L.toNat = L.toNat) o4) (L12ab.nx L j l n f m g av14 al14 a35 ar0 (k_ := k_) (z_ := (b48, br0)) ((IntKind.i64.wrap (b48 + 1), br0.set (0 + (IntKind.i64.wrap (IntKind.i64.wrap (a35 + f b48.toNat) + j)).toNat) true)) (Ai o5 (Ai o6 o10)) o8 (by simp only [L12ab.N, h1, h2, h3, h4, cond_true, cond_false]) PopOk.same)))))))))))))))))))))))⟩
    | false =>
     try have := bd_ok (by assumption) (by assumption) (by assumption)
     try have := bd_len (by assumption)
     try have := bd_sz (by assumption) (by assumption) (by assumption)
     try have := IntWalk.i64_in (b48 + 1) (by omega)
     have o5 : (0 : Int) ≤ IntKind.i64.wrap (b48 + (1 : Int)) := by omega
     have o6 : IntKind.i64.wrap (b48 + (1 : Int)) ≤ (↑n : Int) ∨ IntKind.i64.wrap (b48 + (1 : Int)) ≤ (0 : Int) := by omega
     have o7 : br0.length = ar0.length := by omega
     have o8 : ((↑n : Int) - IntKind.i64.wrap (b48 + (1 : Int))).toNat < ((↑n : Int) - b48).toNat := by omega
     exact ⟨[.b true, .b true, .b true, .b true, .b true, .b true, .b true, .b true, .b true, .b true, .b true, .b true, .b true, .b true, .ret (AV.bool (r34.v (IntKind.i64.wrap (a35 + f b48.toNat)) j l m g)) (L12ab.h0 L j l n f m g av14 al14 a35 ar0 b48 br0), .b true, .b false], kmp (by kernel_rfl) (Ai h1 (Ai (Ai o0 o1) (Ai h2 (Ai h2 (Ai h2 (Ai h2 (Ai h2 (Ai (Ai o2 o3) (Ai h2 (Ai (Ai (rfl : L.toNat = L.toNat) (Ai (show (1 : Nat) = (1 : Nat) by decide) o4)) (Ai h2 (Ai h2 (Ai (show (bnot (br0.getD (0 + (IntKind.i64.wrap (IntKind.i64.wrap (a35 + f b48.toNat) + j)).toNat) false)) = true by rw [h3]; try rfl) (Ai (show (bnot (br0.getD (0 + (IntKind.i64.wrap (IntKind.i64.wrap (a35 + f b48.toNat) + j)).toNat) false)) = true by rw [h3]; try rfl) (Ai (show (bnot (br0.getD (0 + (IntKind.i64.wrap (IntKind.i64.wrap (a35 + f b48.toNat) + j)).toNat) false)) = true by rw [h3]; try rfl) (Ai (show (bnot (br0.getD (0 + (IntKind.i64.wrap (IntKind.i64.wrap (a35 + f b48.toNat) + j)).toNat) false)) = true by rw [h3]; try rfl) (Ai (show (bnot (br0.getD (0 + (IntKind.i64.wrap (IntKind.i64.wrap (a35 + f b48.toNat) + j)).toNat) false)) = true by rw [h3]; try rfl) (Ai (r34 (IntKind.i64.wrap (a35 + f b48.toNat)) (j) (l) (m) (g) o9 (L12ab.h0 L j l n f m g av14 al14 a35 ar0 b48 br0)) (Ai (show (bnot (br0.getD (0 + (IntKind.i64.wrap (IntKind.i64.wrap (a35 + f b48.toNat) + j)).toNat) false)) = true by rw [h3]; try rfl) (Ai h4 (L12ab.nx L j l n f m g av14 al14 a35 ar0 (k_ := k_) (z_ := (b48, br0)) ((IntKind.i64.wrap (b48 + 1), br0)) (Ai o5 (Ai o6 o7)) o8 (by simp only [L12ab.N, h1, h2, h3, h4, cond_true, cond_false]) PopOk.same)))))))))))))))))))))⟩
  | false =>
   have h2p := of_decide_eq_false h2
   try have := bd_ok (by assumption) (by assumption) (by assumption)
   try have := bd_len (by assumption)
   try have := bd_sz (by assumption) (by assumption) (by assumption)
   try have := IntWalk.i64_in (b48 + 1) (by omega)
   have o5 : (0 : Int) ≤ IntKind.i64.wrap (b48 + (1 : Int)) := by omega
   have o6 : IntKind.i64.wrap (b48 + (1 : Int)) ≤ (↑n : Int) ∨ IntKind.i64.wrap (b48 + (1 : Int)) ≤ (0 : Int) := by omega
   have o7 : br0.length = ar0.length := by omega
   have o8 : ((↑n : Int) - IntKind.i64.wrap (b48 + (1 : Int))).toNat < ((↑n : Int) - b48).toNat := by omega
   exact ⟨[.b true, .b false, .b false, .b false, .b false, .b false, .b false, .b false, .b false, .b false, .b false, .b false, .b false, .b false, .b false, .b false], kmp (by kernel_rfl) (Ai h1 (Ai (Ai o0 o1) (Ai h2 (Ai h2 (Ai h2 (Ai h2 (Ai h2 (Ai h2 (Ai h2 (Ai h2 (Ai (rfl : false = false) (Ai (rfl : false = false) (Ai (rfl : false = false) (Ai (rfl : false = false) (Ai (rfl : false = false) (Ai (rfl : false = false) (Ai (rfl : false = false) (L12ab.nx L j l n f m g av14 al14 a35 ar0 (k_ := k_) (z_ := (b48, br0)) ((IntKind.i64.wrap (b48 + 1), br0)) (Ai o5 (Ai o6 o7)) o8 (by simp only [L12ab.N, h1, h2, cond_true, cond_false]) PopOk.same))))))))))))))))))⟩
 | false =>
  have h1p := of_decide_eq_false h1
  exact ⟨[.b false], kmp (by kernel_rfl) (Ai h1 (L12ab.en L j l n f m g av14 al14 a35 ar0 (k_ := k_) (z_ := (b48, br0)) (.e0 (br0) : L12ab.O) (by simp only [L12ab.N, h1, cond_true, cond_false]) PopOk.same))⟩
theorem L12ab.e0 (L : Int) (j : Int) (l : Int) (n : Nat) (f : Nat → Int) (hn : n ≤ 9223372036854775807) (m : Nat) (g : Nat → Int) (hm : m ≤ 9223372036854775807) (k0_1 : (r32.v L j l n f m g == 0) = true) (p0_1 : r32.v L j l n f m g = 0) (av14 : Nat) (al14 : List Int) (a35 : Int) (ar0 : List Bool) (i12a_0 : 0 ≤ a35) (i12a_1 : a35 ≤ (↑L.toNat : Int) ∨ a35 ≤ 0) (i12a_2 : (↑al14.length : Int) ≤ 1000000 * (a35 - 0)) (i12a_3 : ar0.length = ((List.replicate L.toNat false).set 0 true).length) (k1_1 : decide (a35 < (↑L.toNat : Int)) = true) (p1_1 : a35 < (↑L.toNat : Int)) (k1_2 : ar0.getD (0 + a35.toNat) false = true) (b48 : Int) (br0 : List Bool) (hinv : L12ab.inv L j l n f m g av14 al14 a35 ar0 b48 br0) (a0 : List Bool) (hN : L12ab.run L j l n f m g a35 b48 br0 = (.e0 a0 : L12ab.O)) : LoopTo Try.prog (loopN Try.f12 1) (L12ab.T L j l n f m g av14 al14 a35 ar0 b48 br0) (L12ab.H L j l n f m g av14 al14 a35 ar0 b48 br0) (Exit.exit 2) (L12ab.X L j l n f m g av14 al14 a35 ar0 (.e0 a0 : L12ab.O)) (L12ab.XH L j l n f m g av14 al14 a35 ar0 (.e0 a0 : L12ab.O)) := by
 have h_ := L12ab.spec L j l n f hn m g hm k0_1 p0_1 av14 al14 a35 ar0 i12a_0 i12a_1 i12a_2 i12a_3 k1_1 p1_1 k1_2 ((((↑n : Int) - b48).toNat) + 1) (b48, br0) hinv (Nat.lt_succ_self _)
 unfold L12ab.run at hN
 simp only [hN] at h_
 exact h_
theorem L12ab.len0_0 (L : Int) (j : Int) (l : Int) (n : Nat) (f : Nat → Int) (m : Nat) (g : Nat → Int) (a35 : Int) : ∀ (m_ : Nat) (b48 : Int) (br0 : List Bool) (a0_ : List Bool), L12ab.N L j l n f m g a35 m_ b48 br0 = (.e0 a0_ : L12ab.O) → (a0_).length ≤ (br0).length + m_ := by
 intro m_
 induction m_ with
 | zero =>
  intro b48 br0 a0_ h_
  simp only [L12ab.N] at h_
  first | (cases h_; done) | (cases h_; first | exact Nat.zero_le _ | omega)
 | succ m_ ih_ =>
  intro b48 br0 a0_ h_
  cases h1 : decide (b48 < (↑n : Int)) with
  | true =>
   have h1p := of_decide_eq_true h1
   cases h2 : decide (IntKind.i64.wrap (IntKind.i64.wrap (a35 + f b48.toNat) + j) < L) with
   | true =>
    have h2p := of_decide_eq_true h2
    cases h3 : br0.getD (0 + (IntKind.i64.wrap (IntKind.i64.wrap (a35 + f b48.toNat) + j)).toNat) false with
    | true =>
     (simp only [L12ab.N, h1, h2, h3, cond_true, cond_false] at h_; first | (have := ih_ _ _ _ h_; (try simp only [List.length_append, List.length_cons, List.length_nil, List.length_set] at this); omega) | (cases h_; done) | (cases h_; omega))
    | false =>
     cases h4 : r34.v (IntKind.i64.wrap (a35 + f b48.toNat)) j l m g with
     | true =>
      (simp only [L12ab.N, h1, h2, h3, h4, cond_true, cond_false] at h_; first | (have := ih_ _ _ _ h_; (try simp only [List.length_append, List.length_cons, List.length_nil, List.length_set] at this); omega) | (cases h_; done) | (cases h_; omega))
     | false =>
      (simp only [L12ab.N, h1, h2, h3, h4, cond_true, cond_false] at h_; first | (have := ih_ _ _ _ h_; (try simp only [List.length_append, List.length_cons, List.length_nil, List.length_set] at this); omega) | (cases h_; done) | (cases h_; omega))
   | false =>
    have h2p := of_decide_eq_false h2
    (simp only [L12ab.N, h1, h2, cond_true, cond_false] at h_; first | (have := ih_ _ _ _ h_; (try simp only [List.length_append, List.length_cons, List.length_nil, List.length_set] at this); omega) | (cases h_; done) | (cases h_; omega))
  | false =>
   have h1p := of_decide_eq_false h1
   (simp only [L12ab.N, h1, cond_true, cond_false] at h_; first | (have := ih_ _ _ _ h_; (try simp only [List.length_append, List.length_cons, List.length_nil, List.length_set] at this); omega) | (cases h_; done) | (cases h_; omega))
theorem L12ab.lenR0_0 (L : Int) (j : Int) (l : Int) (n : Nat) (f : Nat → Int) (m : Nat) (g : Nat → Int) (a35 : Int) {b48 : Int} {br0 : List Bool} {a0_ : List Bool} (h_ : L12ab.run L j l n f m g a35 b48 br0 = (.e0 a0_ : L12ab.O)) : (a0_).length ≤ (br0).length + ((((↑n : Int) - b48).toNat) + 1) := L12ab.len0_0 L j l n f m g a35 _ b48 br0 a0_ h_
theorem L12ab.leq0_0 (L : Int) (j : Int) (l : Int) (n : Nat) (f : Nat → Int) (m : Nat) (g : Nat → Int) (a35 : Int) : ∀ (m_ : Nat) (b48 : Int) (br0 : List Bool) (a0_ : List Bool), L12ab.N L j l n f m g a35 m_ b48 br0 = (.e0 a0_ : L12ab.O) → (a0_).length = (br0).length := by
 intro m_
 induction m_ with
 | zero =>
  intro b48 br0 a0_ h_
  simp only [L12ab.N] at h_
  cases h_
  try rfl
 | succ m_ ih_ =>
  intro b48 br0 a0_ h_
  cases h1 : decide (b48 < (↑n : Int)) with
  | true =>
   have h1p := of_decide_eq_true h1
   cases h2 : decide (IntKind.i64.wrap (IntKind.i64.wrap (a35 + f b48.toNat) + j) < L) with
   | true =>
    have h2p := of_decide_eq_true h2
    cases h3 : br0.getD (0 + (IntKind.i64.wrap (IntKind.i64.wrap (a35 + f b48.toNat) + j)).toNat) false with
    | true =>
     (simp only [L12ab.N, h1, h2, h3, cond_true, cond_false] at h_; first | (have q_ := ih_ _ _ _ h_; (try simp only [List.length_set] at *); omega) | (cases h_; done) | (cases h_; first | rfl | simp))
    | false =>
     cases h4 : r34.v (IntKind.i64.wrap (a35 + f b48.toNat)) j l m g with
     | true =>
      (simp only [L12ab.N, h1, h2, h3, h4, cond_true, cond_false] at h_; first | (have q_ := ih_ _ _ _ h_; (try simp only [List.length_set] at *); omega) | (cases h_; done) | (cases h_; first | rfl | simp))
     | false =>
      (simp only [L12ab.N, h1, h2, h3, h4, cond_true, cond_false] at h_; first | (have q_ := ih_ _ _ _ h_; (try simp only [List.length_set] at *); omega) | (cases h_; done) | (cases h_; first | rfl | simp))
   | false =>
    have h2p := of_decide_eq_false h2
    (simp only [L12ab.N, h1, h2, cond_true, cond_false] at h_; first | (have q_ := ih_ _ _ _ h_; (try simp only [List.length_set] at *); omega) | (cases h_; done) | (cases h_; first | rfl | simp))
  | false =>
   have h1p := of_decide_eq_false h1
   (simp only [L12ab.N, h1, cond_true, cond_false] at h_; first | (have q_ := ih_ _ _ _ h_; (try simp only [List.length_set] at *); omega) | (cases h_; done) | (cases h_; first | rfl | simp))
theorem L12ab.leqR0_0 (L : Int) (j : Int) (l : Int) (n : Nat) (f : Nat → Int) (m : Nat) (g : Nat → Int) (a35 : Int) {b48 : Int} {br0 : List Bool} {a0_ : List Bool} (h_ : L12ab.run L j l n f m g a35 b48 br0 = (.e0 a0_ : L12ab.O)) : (a0_).length = (br0).length := L12ab.leq0_0 L j l n f m g a35 _ b48 br0 a0_ h_
inductive L12a.O where
 | e0 (a0 : Nat) (a1 : List Int) (a2 : List Bool)
noncomputable def L12a.T (L : Int) (j : Int) (l : Int) (n : Nat) (f : Nat → Int) (m : Nat) (g : Nat → Int) (av14 : Nat) (al14 : List Int) (a35 : Int) (ar0 : List Bool) : List AV := mkT 84 [(0, iv L), (1, iv j), (2, iv l), (3, AV.sl 1 n fun (i : Nat) => iv (f i)), (4, AV.sl 1 m fun (i : Nat) => iv (g i)), (13, AV.ms 0 L.toNat 1 0 L.toNat), (14, AV.ms 1 av14 1 0 al14.length), (33, AV.ms 0 L.toNat 1 0 L.toNat), (34, iv (↑L.toNat : Int)), (35, iv a35)]
noncomputable def L12a.H (L : Int) (j : Int) (l : Int) (n : Nat) (f : Nat → Int) (m : Nat) (g : Nat → Int) (av14 : Nat) (al14 : List Int) (a35 : Int) (ar0 : List Bool) : AHeap := [AObj.row 1 L.toNat (Col.bools ar0), AObj.row 1 av14 (Col.ints IntKind.i64 al14)]
def L12a.inv (L : Int) (j : Int) (l : Int) (n : Nat) (f : Nat → Int) (m : Nat) (g : Nat → Int) (av14 : Nat) (al14 : List Int) (a35 : Int) (ar0 : List Bool) : Prop := 0 ≤ a35 ∧ (a35 ≤ (↑L.toNat : Int) ∨ a35 ≤ 0) ∧ (↑al14.length : Int) ≤ 1000000 * (a35 - 0) ∧ ar0.length = ((List.replicate L.toNat false).set 0 true).length
noncomputable def L12a.mu (L : Int) (j : Int) (l : Int) (n : Nat) (f : Nat → Int) (m : Nat) (g : Nat → Int) (av14 : Nat) (al14 : List Int) (a35 : Int) (ar0 : List Bool) : Nat := ((↑L.toNat : Int) - a35).toNat
noncomputable def L12a.E : L12a.O → Exit
 | .e0 a0 a1 a2 => Exit.exit 0
noncomputable def L12a.X (L : Int) (j : Int) (l : Int) (n : Nat) (f : Nat → Int) (m : Nat) (g : Nat → Int) : L12a.O → List AV
 | .e0 a0 a1 a2 => mkT 84 [(14, (AV.ms 1 a0 1 0 (List.length a1)))]
noncomputable def L12a.XH (L : Int) (j : Int) (l : Int) (n : Nat) (f : Nat → Int) (m : Nat) (g : Nat → Int) : L12a.O → AHeap
 | .e0 a0 a1 a2 => ((AObj.row 1 (L.toNat) (Col.bools a2)) :: ((AObj.row 1 a0 (Col.ints IntKind.i64 a1)) :: ([])))
noncomputable def L12a.N (L : Int) (j : Int) (l : Int) (n : Nat) (f : Nat → Int) (m : Nat) (g : Nat → Int) : Nat → Nat → (List Int) → Int → (List Bool) → L12a.O
 | 0, av14, al14, _, ar0 => .e0 av14 al14 ar0
 | k_ + 1, av14, al14, a35, ar0 => (bif decide (a35 < (↑L.toNat : Int)) then (bif ar0.getD (0 + a35.toNat) false then (match L12ab.run L j l n f m g a35 0 ar0 with | .e0 h3d0 => (L12a.N L j l n f m g k_ (av14 + 1) (al14 ++ [a35]) (IntKind.i64.wrap (a35 + 1)) (h3d0)) ) else (L12a.N L j l n f m g k_ (av14) (al14) (IntKind.i64.wrap (a35 + 1)) (ar0))) else (.e0 (av14) (al14) (ar0)))
noncomputable def L12a.run (L : Int) (j : Int) (l : Int) (n : Nat) (f : Nat → Int) (m : Nat) (g : Nat → Int) (av14 : Nat) (al14 : List Int) (a35 : Int) (ar0 : List Bool) : L12a.O := L12a.N L j l n f m g ((((↑L.toNat : Int) - a35).toNat) + 1) av14 al14 a35 ar0
theorem L12a.nx (L : Int) (j : Int) (l : Int) (n : Nat) (f : Nat → Int) (m : Nat) (g : Nat → Int) {k_ : Nat} {z_ : Nat × (List Int) × Int × (List Bool)} {h_ : AHeap} (s_ : Nat × (List Int) × Int × (List Bool)) (h1 : L12a.inv L j l n f m g s_.1 s_.2.1 s_.2.2.1 s_.2.2.2) (h2 : L12a.mu L j l n f m g s_.1 s_.2.1 s_.2.2.1 s_.2.2.2 < L12a.mu L j l n f m g z_.1 z_.2.1 z_.2.2.1 z_.2.2.2) (h3 : L12a.N L j l n f m g k_ s_.1 s_.2.1 s_.2.2.1 s_.2.2.2 = L12a.N L j l n f m g (k_ + 1) z_.1 z_.2.1 z_.2.2.1 z_.2.2.2) (h4 : PopOk (L12a.H L j l n f m g z_.1 z_.2.1 z_.2.2.1 z_.2.2.2) h_ (L12a.T L j l n f m g s_.1 s_.2.1 s_.2.2.1 s_.2.2.2) (L12a.H L j l n f m g s_.1 s_.2.1 s_.2.2.1 s_.2.2.2)) : LNextP (fun (z_ : Nat × (List Int) × Int × (List Bool)) => L12a.T L j l n f m g z_.1 z_.2.1 z_.2.2.1 z_.2.2.2) (fun (z_ : Nat × (List Int) × Int × (List Bool)) => L12a.H L j l n f m g z_.1 z_.2.1 z_.2.2.1 z_.2.2.2) (fun (z_ : Nat × (List Int) × Int × (List Bool)) => L12a.inv L j l n f m g z_.1 z_.2.1 z_.2.2.1 z_.2.2.2) (fun (z_ : Nat × (List Int) × Int × (List Bool)) => L12a.mu L j l n f m g z_.1 z_.2.1 z_.2.2.1 z_.2.2.2) (fun (k_ : Nat) (z_ : Nat × (List Int) × Int × (List Bool)) => L12a.N L j l n f m g k_ z_.1 z_.2.1 z_.2.2.1 z_.2.2.2) k_ z_ (L12a.T L j l n f m g s_.1 s_.2.1 s_.2.2.1 s_.2.2.2) h_ := LNextP.mk s_ h1 h2 h3 h4
theorem L12a.en (L : Int) (j : Int) (l : Int) (n : Nat) (f : Nat → Int) (m : Nat) (g : Nat → Int) {k_ : Nat} {z_ : Nat × (List Int) × Int × (List Bool)} {h_ : AHeap} (o_ : L12a.O) (h3 : L12a.N L j l n f m g (k_ + 1) z_.1 z_.2.1 z_.2.2.1 z_.2.2.2 = o_) (h4 : PopOk (L12a.H L j l n f m g z_.1 z_.2.1 z_.2.2.1 z_.2.2.2) h_ (L12a.X L j l n f m g o_) (L12a.XH L j l n f m g o_)) : LEndP (fun (z_ : Nat × (List Int) × Int × (List Bool)) => L12a.H L j l n f m g z_.1 z_.2.1 z_.2.2.1 z_.2.2.2) (fun (k_ : Nat) (z_ : Nat × (List Int) × Int × (List Bool)) => L12a.N L j l n f m g k_ z_.1 z_.2.1 z_.2.2.1 z_.2.2.2) L12a.E (L12a.X L j l n f m g) (L12a.XH L j l n f m g) k_ z_ (L12a.E o_) (L12a.X L j l n f m g o_) h_ := LEndP.mk o_ h3 h4
theorem L12a.spec (L : Int) (j : Int) (l : Int) (n : Nat) (f : Nat → Int) (hn : n ≤ 9223372036854775807) (m : Nat) (g : Nat → Int) (hm : m ≤ 9223372036854775807) (k0_1 : (r32.v L j l n f m g == 0) = true) (p0_1 : r32.v L j l n f m g = 0) (k_ : Nat) (z_ : Nat × (List Int) × Int × (List Bool)) (hi_ : L12a.inv L j l n f m g z_.1 z_.2.1 z_.2.2.1 z_.2.2.2) (hm_ : L12a.mu L j l n f m g z_.1 z_.2.1 z_.2.2.1 z_.2.2.2 < k_) : LoopTo Try.prog (loopN Try.f12 0) (L12a.T L j l n f m g z_.1 z_.2.1 z_.2.2.1 z_.2.2.2) (L12a.H L j l n f m g z_.1 z_.2.1 z_.2.2.1 z_.2.2.2) (L12a.E (L12a.N L j l n f m g k_ z_.1 z_.2.1 z_.2.2.1 z_.2.2.2)) (L12a.X L j l n f m g (L12a.N L j l n f m g k_ z_.1 z_.2.1 z_.2.2.1 z_.2.2.2)) (L12a.XH L j l n f m g (L12a.N L j l n f m g k_ z_.1 z_.2.1 z_.2.2.1 z_.2.2.2)) := by
 refine LoopTo.fuelP mix (fun (z_ : Nat × (List Int) × Int × (List Bool)) => L12a.T L j l n f m g z_.1 z_.2.1 z_.2.2.1 z_.2.2.2) (fun (z_ : Nat × (List Int) × Int × (List Bool)) => L12a.H L j l n f m g z_.1 z_.2.1 z_.2.2.1 z_.2.2.2) (fun (z_ : Nat × (List Int) × Int × (List Bool)) => L12a.inv L j l n f m g z_.1 z_.2.1 z_.2.2.1 z_.2.2.2) (fun (z_ : Nat × (List Int) × Int × (List Bool)) => L12a.mu L j l n f m g z_.1 z_.2.1 z_.2.2.1 z_.2.2.2) (fun (k_ : Nat) (z_ : Nat × (List Int) × Int × (List Bool)) => L12a.N L j l n f m g k_ z_.1 z_.2.1 z_.2.2.1 z_.2.2.2) L12a.E (L12a.X L j l n f m g) (L12a.XH L j l n f m g) (others 84 [0, 1, 2, 3, 4, 13, 14, 33, 34, 35]) (others 84 [10, 11]) (others 84 [14]) ?_ k_ z_ hi_ hm_
 clear hm_ hi_ z_ k_
 intro k_ z_ hinv hmu
 obtain ⟨av14, al14, a35, ar0⟩ := z_
 have hinv : 0 ≤ a35 ∧ (a35 ≤ (↑L.toNat : Int) ∨ a35 ≤ 0) ∧ (↑al14.length : Int) ≤ 1000000 * (a35 - 0) ∧ ar0.length = ((List.replicate L.toNat false).set 0 true).length := hinv
 have hmu : (((↑L.toNat : Int) - a35).toNat) < k_ + 1 := hmu
 cases h1 : decide (a35 < (↑L.toNat : Int)) with
 | true =>
  have h1p := of_decide_eq_true h1
  try have := bd_ok (by assumption) (by assumption) (by assumption)
  try have := bd_len (by assumption)
  try have := bd_sz (by assumption) (by first | assumption | omega) (by first | assumption | omega)
  try have := L12ab.lenR0_0 _ _ _ _ _ _ _ _ (by assumption); (try simp only [List.length_nil] at this)
  try have := L12ab.leqR0_0 _ _ _ _ _ _ _ _ (by assumption); (try simp only [List.length_replicate] at this)
  have o0 : (0 : Int) ≤ a35 := by omega
  have o1 : a35 < (↑L.toNat : Int) := by assumption
  have o2 : (0 : Nat) + a35.toNat < (Col.bools ar0).len := by simp only [Col.len, zero_bool, zero_int, List.length_replicate, List.length_set] at *; omega
  cases h2 : ar0.getD (0 + a35.toNat) false with
  | true =>
   try have := bd_ok (by assumption) (by assumption) (by assumption)
   try have := bd_len (by assumption)
   try have := bd_sz (by assumption) (by first | assumption | omega) (by first | assumption | omega)
   try have := L12ab.lenR0_0 _ _ _ _ _ _ _ _ (by assumption); (try simp only [List.length_nil] at this)
   try have := L12ab.leqR0_0 _ _ _ _ _ _ _ _ (by assumption); (try simp only [List.length_replicate] at this)
   have o3 : (al14.length + (1 : Nat)) * (8 : Nat) ≤ (140737488355328 : Nat) := by omega
   have o4 : al14.length = (Col.ints IntKind.i64 al14).len := by rfl
   have o5 : n ≤ (9223372036854775807 : Nat) := by assumption
   have o6 : m ≤ (9223372036854775807 : Nat) := by assumption
   have o7 : (r32.v L j l n f m g == (0 : Int)) = true := by assumption
   have o8 : r32.v L j l n f m g = (0 : Int) := by assumption
   have o9 : a35 ≤ (↑L.toNat : Int) ∨ a35 ≤ (0 : Int) := by omega
   have o10 : (↑al14.length : Int) ≤ (1000000 : Int) * (a35 - (0 : Int)) := by omega
   have o11 : ar0.length = ((List.replicate L.toNat false).set (0 : Nat) true).length := by omega
   have o12 : decide (a35 < (↑L.toNat : Int)) = true := by assumption
   have o13 : ar0.getD ((0 : Nat) + a35.toNat) false = true := by assumption
   have o14 : (0 : Int) ≤ (↑n : Int) ∨ (0 : Int) ≤ (0 : Int) := by omega
   cases h3 : L12ab.run L j l n f m g a35 0 ar0 with
   | e0 h3d0 =>
    try have := bd_ok (by assumption) (by assumption) (by assumption)
    try have := bd_len (by assumption)
    try have := bd_sz (by assumption) (by first | assumption | omega) (by first | assumption | omega)
    try have := L12ab.lenR0_0 _ _ _ _ _ _ _ _ (by assumption); (try simp only [List.length_nil] at this)
    try have := L12ab.leqR0_0 _ _ _ _ _ _ _ _ (by assumption); (try simp only [List.length_replicate] at this)
    try have := IntWalk.i64_in (a35 + 1) (by omega)
    have o15 : (0 : Int) ≤ IntKind.i64.wrap (a35 + (1 : Int)) := by omega
    have o16 : IntKind.i64.wrap (a35 + (1 : Int)) ≤ (↑L.toNat : Int) ∨ IntKind.i64.wrap (a35 + (1 : Int)) ≤ (0 : Int) := by omega
    have o17 : (↑(al14 ++ [a35]).length : Int) ≤ (1000000 : Int) * (IntKind.i64.wrap (a35 + (1 : Int)) - (0 : Int)) := by simp only [List.length_append, List.length_cons, List.length_nil, List.length_map]; omega
    have o18 : h3d0.length = ((List.replicate L.toNat false).set (0 : Nat) true).length := by omega
    have o19 : ((↑L.toNat : Int) - IntKind.i64.wrap (a35 + (1 : Int))).toNat < ((↑L.toNat : Int) - a35).toNat := by omega
    exact ⟨[.b true, .b false, .app .one false, .loop (others 84 [0, 1, 2, 3, 4, 13, 14, 15, 33, 34, 35, 46, 47, 48]) (Exit.exit 2) (L12ab.X L j l n f m g av14 al14 a35 ar0 (L12ab.O.e0 h3d0)) (L12ab.XH L j l n f m g av14 al14 a35 ar0 (L12ab.O.e0 h3d0))], kmp (by kernel_rfl) (Ai h1 (Ai (Ai o0 o1) (Ai (Ai (rfl : L.toNat = L.toNat) (Ai (show (1 : Nat) = (1 : Nat) by decide) o2)) (Ai (show (bnot (ar0.getD (0 + a35.toNat) false)) = false by rw [h2]; try rfl) (Ai (Ai (show (1 : Nat) = (1 : Nat) by decide) (Ai (show AppMode.one.needs 1 fun (a : Nat) => (Col.ofList [iv a35]).get a by exact ⟨rfl, rfl⟩) (Ai o3 (Ai (rfl : av14 = av14) (Ai (show (0 : Nat) = (0 : Nat) by decide) o4))))) (Ai (L12ab.e0 (L) (j) (l) (n) (f) o5 (m) (g) o6 o7 o8 (av14) (al14) (a35) (ar0) o0 o9 o10 o11 o12 o1 o13 (0) (ar0) (Ai (show (0 : Int) ≤ (0 : Int) by decide) (Ai o14 (rfl : ar0.length = ar0.length))) h3d0 h3) (L12a.nx L j l n f m g (k_ := k_) (z_ := (av14, al14, a35, ar0)) ((av14 + 1, al14 ++ [a35], IntKind.i64.wrap (a35 + 1), h3d0)) (Ai o15 (Ai o16 (Ai o17 o18))) o19 (by simp only [L12a.N, h1, h2, h3, cond_true, cond_false]) PopOk.same)))))))⟩
  | false =>
   try have := bd_ok (by assumption) (by assumption) (by assumption)
   try have := bd_len (by assumption)
   try have := bd_sz (by assumption) (by first | assumption | omega) (by first | assumption | omega)
   try have := L12ab.lenR0_0 _ _ _ _ _ _ _ _ (by assumption); (try simp only [List.length_nil] at this)
   try have := L12ab.leqR0_0 _ _ _ _ _ _ _ _ (by assumption); (try simp only [List.length_replicate] at this)
   try have := IntWalk.i64_in (a35 + 1) (by omega)
   have o15 : (0 : Int) ≤ IntKind.i64.wrap (a35 + (1 : Int)) := by omega
   have o16 : IntKind.i64.wrap (a35 + (1 : Int)) ≤ (↑L.toNat : Int) ∨ IntKind.i64.wrap (a35 + (1 : Int)) ≤ (0 : Int) := by omega
   have o20 : (↑al14.length : Int) ≤ (1000000 : Int) * (IntKind.i64.wrap (a35 + (1 : Int)) - (0 : Int)) := by omega
   have o11 : ar0.length = ((List.replicate L.toNat false).set (0 : Nat) true).length := by omega
   have o19 : ((↑L.toNat : Int) - IntKind.i64.wrap (a35 + (1 : Int))).toNat < ((↑L.toNat : Int) - a35).toNat := by omega
   exact ⟨[.b true, .b true], kmp (by kernel_rfl) (Ai h1 (Ai (Ai o0 o1) (Ai (Ai (rfl : L.toNat = L.toNat) (Ai (show (1 : Nat) = (1 : Nat) by decide) o2)) (Ai (show (bnot (ar0.getD (0 + a35.toNat) false)) = true by rw [h2]; try rfl) (L12a.nx L j l n f m g (k_ := k_) (z_ := (av14, al14, a35, ar0)) ((av14, al14, IntKind.i64.wrap (a35 + 1), ar0)) (Ai o15 (Ai o16 (Ai o20 o11))) o19 (by simp only [L12a.N, h1, h2, cond_true, cond_false]) PopOk.same)))))⟩
 | false =>
  have h1p := of_decide_eq_false h1
  exact ⟨[.b false], kmp (by kernel_rfl) (Ai h1 (L12a.en L j l n f m g (k_ := k_) (z_ := (av14, al14, a35, ar0)) (.e0 (av14) (al14) (ar0) : L12a.O) (by simp only [L12a.N, h1, cond_true, cond_false]) PopOk.same))⟩
theorem L12a.e0 (L : Int) (j : Int) (l : Int) (n : Nat) (f : Nat → Int) (hn : n ≤ 9223372036854775807) (m : Nat) (g : Nat → Int) (hm : m ≤ 9223372036854775807) (k0_1 : (r32.v L j l n f m g == 0) = true) (p0_1 : r32.v L j l n f m g = 0) (av14 : Nat) (al14 : List Int) (a35 : Int) (ar0 : List Bool) (hinv : L12a.inv L j l n f m g av14 al14 a35 ar0) (a0 : Nat) (a1 : List Int) (a2 : List Bool) (hN : L12a.run L j l n f m g av14 al14 a35 ar0 = (.e0 a0 a1 a2 : L12a.O)) : LoopTo Try.prog (loopN Try.f12 0) (L12a.T L j l n f m g av14 al14 a35 ar0) (L12a.H L j l n f m g av14 al14 a35 ar0) (Exit.exit 0) (L12a.X L j l n f m g (.e0 a0 a1 a2 : L12a.O)) (L12a.XH L j l n f m g (.e0 a0 a1 a2 : L12a.O)) := by
 have h_ := L12a.spec L j l n f hn m g hm k0_1 p0_1 ((((↑L.toNat : Int) - a35).toNat) + 1) (av14, al14, a35, ar0) hinv (Nat.lt_succ_self _)
 unfold L12a.run at hN
 simp only [hN] at h_
 exact h_
theorem L12a.leq0_2 (L : Int) (j : Int) (l : Int) (n : Nat) (f : Nat → Int) (m : Nat) (g : Nat → Int) : ∀ (m_ : Nat) (av14 : Nat) (al14 : List Int) (a35 : Int) (ar0 : List Bool) (a0_ : Nat) (a1_ : List Int) (a2_ : List Bool), L12a.N L j l n f m g m_ av14 al14 a35 ar0 = (.e0 a0_ a1_ a2_ : L12a.O) → (a2_).length = (ar0).length := by
 intro m_
 induction m_ with
 | zero =>
  intro av14 al14 a35 ar0 a0_ a1_ a2_ h_
  simp only [L12a.N] at h_
  cases h_
  try rfl
 | succ m_ ih_ =>
  intro av14 al14 a35 ar0 a0_ a1_ a2_ h_
  cases h1 : decide (a35 < (↑L.toNat : Int)) with
  | true =>
   have h1p := of_decide_eq_true h1
   cases h2 : ar0.getD (0 + a35.toNat) false with
   | true =>
    cases h3 : L12ab.run L j l n f m g a35 0 ar0 with
    | e0 h3d0 =>
     (simp only [L12a.N, h1, h2, h3, cond_true, cond_false] at h_; first | (have q_ := ih_ _ _ _ _ _ _ _ h_; (try have := L12ab.lenR0_0 _ _ _ _ _ _ _ _ (by assumption); (try simp only [List.length_nil] at this)); (try have := L12ab.leqR0_0 _ _ _ _ _ _ _ _ (by assumption); (try simp only [List.length_replicate] at this)); (try simp only [List.length_set] at *); omega) | (cases h_; done) | (cases h_; first | rfl | simp))
   | false =>
    (simp only [L12a.N, h1, h2, cond_true, cond_false] at h_; first | (have q_ := ih_ _ _ _ _ _ _ _ h_; (try have := L12ab.lenR0_0 _ _ _ _ _ _ _ _ (by assumption); (try simp only [List.length_nil] at this)); (try have := L12ab.leqR0_0 _ _ _ _ _ _ _ _ (by assumption); (try simp only [List.length_replicate] at this)); (try simp only [List.length_set] at *); omega) | (cases h_; done) | (cases h_; first | rfl | simp))
  | false =>
   have h1p := of_decide_eq_false h1
   (simp only [L12a.N, h1, cond_true, cond_false] at h_; first | (have q_ := ih_ _ _ _ _ _ _ _ h_; (try have := L12ab.lenR0_0 _ _ _ _ _ _ _ _ (by assumption); (try simp only [List.length_nil] at this)); (try have := L12ab.leqR0_0 _ _ _ _ _ _ _ _ (by assumption); (try simp only [List.length_replicate] at this)); (try simp only [List.length_set] at *); omega) | (cases h_; done) | (cases h_; first | rfl | simp))
theorem L12a.leqR0_2 (L : Int) (j : Int) (l : Int) (n : Nat) (f : Nat → Int) (m : Nat) (g : Nat → Int) {av14 : Nat} {al14 : List Int} {a35 : Int} {ar0 : List Bool} {a0_ : Nat} {a1_ : List Int} {a2_ : List Bool} (h_ : L12a.run L j l n f m g av14 al14 a35 ar0 = (.e0 a0_ a1_ a2_ : L12a.O)) : (a2_).length = (ar0).length := L12a.leq0_2 L j l n f m g _ av14 al14 a35 ar0 a0_ a1_ a2_ h_
noncomputable def r12.v0 (L : Int) (j : Int) (l : Int) (n : Nat) (f : Nat → Int) (m : Nat) (g : Nat → Int) : List Int := (bif r32.v L j l n f m g == 0 then (match L12a.run L j l n f m g 0 [] 0 ((List.replicate L.toNat false).set 0 true) with | .e0 h2d0 h2d1 h2d2 => h2d1 ) else ([] : List Int))
noncomputable def r12.v1 (L : Int) (j : Int) (l : Int) (n : Nat) (f : Nat → Int) (m : Nat) (g : Nat → Int) : Int := (bif r32.v L j l n f m g == 0 then (match L12a.run L j l n f m g 0 [] 0 ((List.replicate L.toNat false).set 0 true) with | .e0 h2d0 h2d1 h2d2 => 0 ) else r32.v L j l n f m g)
theorem r12 (L : Int) (j : Int) (l : Int) (n : Nat) (f : Nat → Int) (hn : n ≤ 9223372036854775807) (m : Nat) (g : Nat → Int) (hm : m ≤ 9223372036854775807) (h : AHeap) : Ret Try.prog 12 ([iv L, iv j, iv l, ivs n f, ivs m g]) h (AV.tup [(avInts IntKind.i64 (r12.v0 L j l n f m g)), (iv (r12.v1 L j l n f m g))]) h := by
 try have := bd_ok (by first | assumption | omega) (by first | assumption | omega) (by first | assumption | omega)
 try have := bd_len (by first | assumption | omega)
 try have := bd_sz (by first | assumption | omega) (by first | assumption | omega) (by first | assumption | omega)
 have o0 : n ≤ (9223372036854775807 : Nat) := by assumption
 have o1 : m ≤ (9223372036854775807 : Nat) := by assumption
 cases h1 : r32.v L j l n f m g == 0 with
 | true =>
  have h1p := eq_of_beq h1
  try have := bd_ok (by assumption) (by assumption) (by assumption)
  try have := bd_len (by assumption)
  try have := bd_sz (by assumption) (by first | assumption | omega) (by first | assumption | omega)
  try have := L12a.leqR0_2 _ _ _ _ _ _ _ (by assumption); (try simp only [List.length_replicate] at this)
  have o2 : (0 : Int) ≤ L := by omega
  have o3 : (1 : Int) * L ≤ (281474976710656 : Int) := by omega
  have o4 : L ≤ (9223372036854775807 : Int) := by omega
  have o5 : (0 : Int) < (↑L.toNat : Int) := by omega
  have o6 : (0 : Nat) < (Col.zero (ofV (Value.bool false)) L.toNat).len := by simp only [Col.len, zero_bool, zero_int, List.length_replicate, List.length_set] at *; omega
  have o7 : (r32.v L j l n f m g == (0 : Int)) = true := by assumption
  have o8 : r32.v L j l n f m g = (0 : Int) := by assumption
  have o9 : (0 : Int) ≤ (↑L.toNat : Int) ∨ (0 : Int) ≤ (0 : Int) := by omega
  cases h2 : L12a.run L j l n f m g 0 [] 0 ((List.replicate L.toNat false).set 0 true) with
  | e0 h2d0 h2d1 h2d2 =>
   try have := bd_ok (by assumption) (by assumption) (by assumption)
   try have := bd_len (by assumption)
   try have := bd_sz (by assumption) (by first | assumption | omega) (by first | assumption | omega)
   try have := L12a.leqR0_2 _ _ _ _ _ _ _ (by assumption); (try simp only [List.length_replicate] at this)
   have o10 : (0 : Nat) + h2d1.length ≤ (Col.ints IntKind.i64 h2d1).len := by simp [Col.len]
   exact Ret.of_run1 mix [(avInts IntKind.i64 (r12.v0 L j l n f m g)), (iv (r12.v1 L j l n f m g))] Try.func12 rfl [.ret (iv (r32.v L j l n f m g)) ([]), .b false, .virt [] [(none, 14, 1, Col.ints IntKind.i64 [])], .loop (others 84 [0, 1, 2, 3, 4, 13, 14, 33, 34, 35]) (Exit.exit 0) (L12a.X L j l n f m g (L12a.O.e0 h2d0 h2d1 h2d2)) (L12a.XH L j l n f m g (L12a.O.e0 h2d0 h2d1 h2d2))] (by simp) (by simp) (kmp (by kernel_rfl) (Ai (r32 (L) (j) (l) (n) (f) o0 (m) (g) o1 ([])) (Ai (show (bnot (r32.v L j l n f m g == 0)) = false by rw [h1]; try rfl) (Ai (Ai (rfl : L = L) (Ai o2 (Ai o3 o4))) (Ai (Ai (show (0 : Int) ≤ (0 : Int) by decide) o5) (Ai (Ai (rfl : L.toNat = L.toNat) o6) (Ai (Ai (rfl : AV.snil = AV.snil) (Ai (rfl : (0 : Nat) = 0) trivial)) (Ai (L12a.e0 (L) (j) (l) (n) (f) o0 (m) (g) o1 o7 o8 (0) ([]) (0) ((List.replicate L.toNat false).set 0 true) (Ai (show (0 : Int) ≤ (0 : Int) by decide) (Ai o9 (Ai (show (0 : Int) ≤ (0 : Int) by decide) (rfl : ((List.replicate L.toNat false).set (0 : Nat) true).length = ((List.replicate L.toNat false).set (0 : Nat) true).length)))) h2d0 h2d1 h2d2 h2) (Ai (Ai (rfl : h2d0 = h2d0) (Ai (show (1 : Nat) = (1 : Nat) by decide) (Ai o10 (show ((avInts IntKind.i64 h2d1)) = ((avInts IntKind.i64 (r12.v0 L j l n f m g))) by simp only [r12.v0, r12.v1, h1, h2, cond_true, cond_false])))) (Ai (show (iv 0) = ((iv (r12.v1 L j l n f m g))) by simp only [r12.v0, r12.v1, h1, h2, cond_true, cond_false]) trivial)))))))))) h
 | false =>
  have h1p := ne_of_beq_false h1
  exact Ret.val (show (AV.tup [(avInts IntKind.i64 ([] : List Int)), iv (r32.v L j l n f m g)]) = (AV.tup [(avInts IntKind.i64 (r12.v0 L j l n f m g)), (iv (r12.v1 L j l n f m g))]) by simp only [r12.v0, r12.v1, h1, cond_true, cond_false]) (Ret.of_run1 mix [(avInts IntKind.i64 ([] : List Int)), iv (r32.v L j l n f m g)] Try.func12 rfl [.ret (iv (r32.v L j l n f m g)) ([]), .b true] (by simp) (by simp) (kmp (by kernel_rfl) (Ai (r32 (L) (j) (l) (n) (f) o0 (m) (g) o1 ([])) (Ai (show (bnot (r32.v L j l n f m g == 0)) = true by rw [h1]; try rfl) (Ai (rfl : ((avInts IntKind.i64 ([] : List Int))) = ((avInts IntKind.i64 ([] : List Int)))) (Ai (rfl : (iv (r32.v L j l n f m g)) = (iv (r32.v L j l n f m g))) trivial))))) h)
end Go.Proofs.Ytjdbmmilcihpoaa
open Go
namespace Go.Proofs.Ytjdbmmilcihpoaa
set_option linter.unusedSimpArgs false
set_option linter.unusedVariables false
set_option maxHeartbeats 0
set_option maxRecDepth 100000
def noI (_ : Nat) : Int := 0
theorem nil_imp : Imp AV.snil (ivs 0 noI) := fun m Mut w v h => by cases h with | snil a => exact .sl0 _ _ _ _
theorem s11 (L j l : Int) (n : Nat) (f : Nat → Int) (hn : n ≤ 9223372036854775807) (h : AHeap) : Ret Try.prog 11 [AV.int .i64 L, .int .i64 j, .int .i64 l, ivs n f, AV.snil] h (AV.tup [(avInts IntKind.i64 (r11.v0 L j l n f 0 noI)), (iv (r11.v1 L j l n f 0 noI))]) h :=
 (r11 L j l n f hn 0 noI (by omega) h).imp (.cons (.refl _) (.cons (.refl _) (.cons (.refl _) (.cons (.refl _) (.cons nil_imp .nil)))))
theorem s12 (L j l : Int) (n : Nat) (f : Nat → Int) (hn : n ≤ 9223372036854775807) (h : AHeap) : Ret Try.prog 12 [AV.int .i64 L, .int .i64 j, .int .i64 l, ivs n f, AV.snil] h (AV.tup [(avInts IntKind.i64 (r12.v0 L j l n f 0 noI)), (iv (r12.v1 L j l n f 0 noI))]) h :=
 (r12 L j l n f hn 0 noI (by omega) h).imp (.cons (.refl _) (.cons (.refl _) (.cons (.refl _) (.cons (.refl _) (.cons nil_imp .nil)))))
theorem s13 (L j l : Int) (n : Nat) (f : Nat → Int) (hn : n ≤ 9223372036854775807) (k : Nat) (s : Nat → Int) (hk : k ≤ 9223372036854775807) (h : AHeap) : Ret Try.prog 13 [AV.int .i64 L, .int .i64 j, .int .i64 l, ivs n f, AV.snil, ivs k s] h (AV.bool (r13.v L j l n f 0 noI k s)) h :=
 (r13 L j l n f hn 0 noI (by omega) k s hk h).imp (.cons (.refl _) (.cons (.refl _) (.cons (.refl _) (.cons (.refl _) (.cons nil_imp (.cons (.refl _) .nil))))))
noncomputable def r9.v : Bool := 0 == 0
theorem r9 (h : AHeap) : Ret Try.prog 9 ([]) h (AV.bool r9.v) h := by
 exact Ret.of_run1 mix [(AV.bool r9.v)] Try.func9 rfl [.ret (AV.tup [AV.sl 1 3 fun (a : Nat) => iv ((r11.v0 100 10 20 3 (fun (i : Nat) => (20 :: (fun (x : List Int) => 30 :: x) ((fun (x : List Int) => 40 :: x) [])).getD i 0) 0 noI).getD a 0), iv 0]) ([]), .ret (AV.tup [AV.sl 1 0 fun (a : Nat) => iv ((r11.v0 100 10 20 3 (fun (i : Nat) => (20 :: (fun (x : List Int) => 30 :: x) ((fun (x : List Int) => 40 :: x) [])).getD i 0) 1 fun (i : Nat) => [60].getD i 0).getD a 0), iv 9]) ([]), .ret (AV.tup [AV.sl 1 2 fun (a : Nat) => iv ((r12.v0 60 10 0 1 (fun (i : Nat) => [20].getD i 0) 0 noI).getD a 0), iv 0]) ([]), .b true, .b true, .b true, .ret (AV.bool (r17.v 3 (fun (i : Nat) => (r11.v0 100 10 20 3 (fun (i : Nat) => (20 :: (fun (x : List Int) => 30 :: x) ((fun (x : List Int) => 40 :: x) [])).getD i 0) 0 noI).getD i 0) 3 fun (i : Nat) => (20 :: (fun (x : List Int) => 20 :: x) ((fun (x : List Int) => 40 :: x) [])).getD i 0)) ([]), .b true, .b true, .b true, .b true, .b true, .b true, .b true, .b true, .b true, .b true, .ret (AV.bool (r17.v 2 (fun (i : Nat) => (r12.v0 60 10 0 1 (fun (i : Nat) => [20].getD i 0) 0 noI).getD i 0) 2 fun (i : Nat) => (0 :: (fun (x : List Int) => 30 :: x) []).getD i 0)) ([]), .b true, .b true, .b true, .b true, .ret (AV.bool (r13.v 100 10 20 3 (fun (i : Nat) => (20 :: (fun (x : List Int) => 30 :: x) ((fun (x : List Int) => 40 :: x) [])).getD i 0) 0 noI 3 fun (i : Nat) => (40 :: (fun (x : List Int) => 20 :: x) ((fun (x : List Int) => 20 :: x) [])).getD i 0)) ([]), .b true, .b true, .b true, .ret (iv 0) ([]), .b true, .b true] (by simp) (by simp) (kmp (by kernel_rfl) (Ai (s11 (100) (10) (20) (3) (fun (i : Nat) => (20 :: (fun (x : List Int) => 30 :: x) ((fun (x : List Int) => 40 :: x) [])).getD i 0) (show (3 : Nat) ≤ (9223372036854775807 : Nat) by first | decide | exact Int.NonNeg.mk _) ([])) (Ai (r11 (100) (10) (20) (3) (fun (i : Nat) => (20 :: (fun (x : List Int) => 30 :: x) ((fun (x : List Int) => 40 :: x) [])).getD i 0) (show (3 : Nat) ≤ (9223372036854775807 : Nat) by first | decide | exact Int.NonNeg.mk _) (1) (fun (i : Nat) => [60].getD i 0) (show (1 : Nat) ≤ (9223372036854775807 : Nat) by first | decide | exact Int.NonNeg.mk _) ([])) (Ai (s12 (60) (10) (0) (1) (fun (i : Nat) => [20].getD i 0) (show (1 : Nat) ≤ (9223372036854775807 : Nat) by first | decide | exact Int.NonNeg.mk _) ([])) (Ai (rfl : true = true) (Ai (rfl : true = true) (Ai (rfl : true = true) (Ai (r17 (3) (fun (i : Nat) => (r11.v0 100 10 20 3 (fun (i : Nat) => (20 :: (fun (x : List Int) => 30 :: x) ((fun (x : List Int) => 40 :: x) [])).getD i 0) 0 noI).getD i 0) (show (3 : Nat) ≤ (9223372036854775807 : Nat) by first | decide | exact Int.NonNeg.mk _) (3) (fun (i : Nat) => (20 :: (fun (x : List Int) => 20 :: x) ((fun (x : List Int) => 40 :: x) [])).getD i 0) (show (3 : Nat) ≤ (9223372036854775807 : Nat) by first | decide | exact Int.NonNeg.mk _) ([])) (Ai (rfl : true = true) (Ai (rfl : true = true) (Ai (rfl : true = true) (Ai (rfl : true = true) (Ai (rfl : true = true) (Ai (rfl : true = true) (Ai (rfl : true = true) (Ai (rfl : true = true) (Ai (rfl : true = true) (Ai (rfl : true = true) (Ai (r17 (2) (fun (i : Nat) => (r12.v0 60 10 0 1 (fun (i : Nat) => [20].getD i 0) 0 noI).getD i 0) (show (2 : Nat) ≤ (9223372036854775807 : Nat) by first | decide | exact Int.NonNeg.mk _) (2) (fun (i : Nat) => (0 :: (fun (x : List Int) => 30 :: x) []).getD i 0) (show (2 : Nat) ≤ (9223372036854775807 : Nat) by first | decide | exact Int.NonNeg.mk _) ([])) (Ai (rfl : true = true) (Ai (rfl : true = true) (Ai (rfl : true = true) (Ai (rfl : true = true) (Ai (s13 (100) (10) (20) (3) (fun (i : Nat) => (20 :: (fun (x : List Int) => 30 :: x) ((fun (x : List Int) => 40 :: x) [])).getD i 0) (show (3 : Nat) ≤ (9223372036854775807 : Nat) by first | decide | exact Int.NonNeg.mk _) (3) (fun (i : Nat) => (40 :: (fun (x : List Int) => 20 :: x) ((fun (x : List Int) => 20 :: x) [])).getD i 0) (show (3 : Nat) ≤ (9223372036854775807 : Nat) by first | decide | exact Int.NonNeg.mk _) ([])) (Ai (rfl : true = true) (Ai (rfl : true = true) (Ai (rfl : true = true) (Ai (c24w ([])) (Ai (rfl : true = true) (Ai (rfl : true = true) (Ai (show (AV.bool (0 == 0)) = ((AV.bool r9.v)) by first | (simp only [r9.v, cond_true, cond_false]; done) | (try unfold r9.v; try rfl; done) | rfl) trivial))))))))))))))))))))))))))))))) h
end Go.Proofs.Ytjdbmmilcihpoaa
open Go
namespace Go.Proofs.Ytjdbmmilcihpoaa
set_option maxHeartbeats 0
set_option maxRecDepth 100000
set_option linter.unusedVariables false
set_option linter.unusedSimpArgs false
theorem small_n {w : WD} (h : r20.v w = true) : w.n ≤ 10000 := by
 unfold r20.v at h
 by_cases h1 : (w.n : Int) > 30
 · rw [decide_eq_true h1, cond_true] at h
   by_cases h2 : (w.n : Int) ≤ 512
   · rw [decide_eq_true h2] at h; cases h
   · rw [decide_eq_false h2, cond_false] at h
     by_cases h3 : (w.n : Int) > 520
     · rw [decide_eq_true h3] at h; cases h
     · omega
 · omega
end Go.Proofs.Ytjdbmmilcihpoaa
open Go
namespace Go.Proofs.Ytjdbmmilcihpoaa
set_option maxHeartbeats 0
set_option maxRecDepth 100000
set_option linter.unusedVariables false
set_option linter.unusedSimpArgs false
theorem chk0 {w : WD} (h : r20.v w = true) (hnm : w.nm.size ≤ 9223372036854775807) (hg : ∀ i, (w.g i).nm.size ≤ 9223372036854775807) (he : (r21.v w == 0) = true) : (r24.v w == 0) = true := by
 rw [← check_eq (small_n h) hnm hg]; exact he
theorem top0 {w : WD} (h : r20.v w = true) (hnm : w.nm.size ≤ 9223372036854775807) (hg : ∀ i, (w.g i).nm.size ≤ 9223372036854775807) (he : (r21.v w == 0) = true) : r41.v w ≤ 99 := v_top41 (small_n h) (chk0 h hnm hg he)
theorem top1 {w : WD} (h : r20.v w = true) (hnm : w.nm.size ≤ 9223372036854775807) (hg : ∀ i, (w.g i).nm.size ≤ 9223372036854775807) (he : (r21.v w == 0) = true) : -1 ≤ r41.v w := by
 rw [r41_v w (small_n h)]; exact (v_top (small_n h) (chk0 h hnm hg he)).2
end Go.Proofs.Ytjdbmmilcihpoaa
open Go
namespace Go.Proofs.Ytjdbmmilcihpoaa
set_option maxHeartbeats 0
set_option maxRecDepth 100000
set_option linter.unusedVariables false
set_option linter.unusedSimpArgs false
theorem r28_same {n m : Nat} {f g : Nat → ByteArray} (hn : n ≤ 1000000) (e : n = m) (h : ∀ i, i < n → f i = g i) : r28.v n f m g = true := by
 subst e
 have := scan_eq (N := L28a.N n f g) (n := n) (fun i => !((f i).toList == (g i).toList)) .e0 .e1 0 (fun k i _ h => by
  simp only [L28a.N, Int.toNat_natCast]
  rw [decide_eq_true (show (i : Int) < (n : Int) by omega), cond_true, wrap_s (Nat.le_of_lt h) (by omega)]
  cases (f i).toList == (g i).toList <;> rfl) (fun k i _ h => by
  simp only [L28a.N]
  rw [decide_eq_false (show ¬ (i : Int) < (n : Int) by omega), cond_false]) (((n : Int) - ((0 : Nat) : Int)).toNat + 1) 0 (Nat.zero_le _) (by omega)
 rw [anyN_all, anyN_false.2 fun i hi => by rw [h i hi]; simp] at this
 have e : L28a.run n f g 0 = .e1 := this
 unfold r28.v
 rw [e]; simp
theorem r28_list {xs ys : List ByteArray} (hn : xs.length ≤ 1000000) (e : xs = ys) : r28.v xs.length (fun i => xs.getD i ByteArray.empty) ys.length (fun i => ys.getD i ByteArray.empty) = true := by
 subst e; exact r28_same hn rfl fun _ _ => rfl
theorem r17_list {xs ys : List Int} (hn : xs.length ≤ 1000000) (e : xs = ys) : r17.v xs.length (fun i => xs.getD i 0) ys.length (fun i => ys.getD i 0) = true := by
 subst e
 have := scan_eq (N := L17a.N xs.length (fun i => xs.getD i 0) (fun i => xs.getD i 0)) (n := xs.length) (fun i => !(xs.getD i 0 == xs.getD i 0)) .e0 .e1 0 (fun k i _ h => by
  simp only [L17a.N, Int.toNat_natCast]
  rw [decide_eq_true (show (i : Int) < (xs.length : Int) by omega), cond_true, wrap_s (Nat.le_of_lt h) (by omega)]
  cases xs.getD i 0 == xs.getD i 0 <;> rfl) (fun k i _ h => by
  simp only [L17a.N]
  rw [decide_eq_false (show ¬ (i : Int) < (xs.length : Int) by omega), cond_false]) (((xs.length : Int) - ((0 : Nat) : Int)).toNat + 1) 0 (Nat.zero_le _) (by omega)
 rw [anyN_all, anyN_false.2 fun i hi => by simp] at this
 have e : L17a.run xs.length (fun i => xs.getD i 0) (fun i => xs.getD i 0) 0 = .e1 := this
 unfold r17.v
 rw [e]; simp
/-- The stones under a stone. -/
def under (s : SD) (L : List SD) : List ByteArray := (L.filter fun b => decide (b.ax < IntKind.i64.wrap (s.ax + s.sx)) && decide (s.ax < IntKind.i64.wrap (b.ax + b.sx))).map SD.nm
theorem under_len (s : SD) (L : List SD) : (under s L).length ≤ L.length := by unfold under; rw [List.length_map]; exact List.length_filter_le _ _
theorem r31b_N (s : SD) (L : List SD) (hl : L.length ≤ 10000) : ∀ (m v k : Nat) (xs : List ByteArray), k ≤ L.length → L.length - k < m → ∃ v', L31b.N s L m v xs (k : Int) = .e0 v' (xs ++ under s (L.drop k)) := by
 intro m
 induction m with
 | zero => intro v k xs _ h; omega
 | succ m ih =>
  intro v k xs hk hm
  simp only [L31b.N, Int.toNat_natCast]
  by_cases h : k < L.length
  · have ed : L.drop k = L.getD k default :: L.drop (k + 1) := by rw [getD_lt h]; exact List.drop_eq_getElem_cons h
    rw [decide_eq_true (show (k : Int) < (L.length : Int) by omega), cond_true, wrap_s hk (by omega), ed]
    unfold under
    rw [List.filter_cons]
    cases decide ((L.getD k default).ax < IntKind.i64.wrap (s.ax + s.sx)) with
    | false => exact ih v (k + 1) xs (by omega) (by omega)
    | true =>
     cases decide (s.ax < IntKind.i64.wrap ((L.getD k default).ax + (L.getD k default).sx)) with
     | false => exact ih v (k + 1) xs (by omega) (by omega)
     | true =>
      obtain ⟨v', e⟩ := ih (v + 1) (k + 1) (xs ++ [(L.getD k default).nm]) (by omega) (by omega)
      refine ⟨v', ?_⟩
      rw [List.append_assoc] at e
      exact e
  · rw [decide_eq_false (show ¬ (k : Int) < (L.length : Int) by omega), cond_false, List.drop_eq_nil_of_le (by omega)]
    exact ⟨v, by unfold under; simp⟩
theorem r31b (s : SD) (L : List SD) (hl : L.length ≤ 10000) : ∃ v', L31b.run s L 0 [] 0 = .e0 v' (under s L) := by
 obtain ⟨v', e⟩ := r31b_N s L hl (((L.length : Int) - ((0 : Nat) : Int)).toNat + 1) 0 0 [] (Nat.zero_le _) (by omega)
 rw [List.drop_zero, List.nil_append] at e
 exact ⟨v', e⟩
theorem v25_N {w : WD} {st : ByteArray} (s : SD) (hs : s = w.g (r59d.v w.n w.g st).toNat) (L : List SD) (hL : L = cC w (IntKind.i64.wrap ((w.g (r59d.v w.n w.g st).toNat).co - 1)).toNat) (hl : L.length ≤ 10000) :
 ∀ (m v k : Nat) (xs : List ByteArray), k ≤ L.length → L.length - k < m → ∃ v', Lv25a.N w st m v xs (k : Int) = .e0 v' (xs ++ under s (L.drop k)) := by
 intro m
 induction m with
 | zero => intro v k xs _ h; omega
 | succ m ih =>
  intro v k xs hk hm
  simp only [Lv25a.N, Int.toNat_natCast]
  rw [← hL, ← hs]
  by_cases h : k < L.length
  · have ed : L.drop k = L.getD k default :: L.drop (k + 1) := by rw [getD_lt h]; exact List.drop_eq_getElem_cons h
    rw [decide_eq_true (show (k : Int) < (L.length : Int) by omega), cond_true, wrap_s hk (by omega), ed]
    unfold under
    rw [List.filter_cons]
    show ∃ v', (bif decide (s.ax < IntKind.i64.wrap ((L.getD k default).ax + (L.getD k default).sx)) then (bif decide ((L.getD k default).ax < IntKind.i64.wrap (s.ax + s.sx)) then _ else _) else _) = _
    cases decide (s.ax < IntKind.i64.wrap ((L.getD k default).ax + (L.getD k default).sx)) with
    | false =>
     rw [Bool.and_false]
     exact ih v (k + 1) xs (by omega) (by omega)
    | true =>
     cases decide ((L.getD k default).ax < IntKind.i64.wrap (s.ax + s.sx)) with
     | false => exact ih v (k + 1) xs (by omega) (by omega)
     | true =>
      obtain ⟨v', e⟩ := ih (v + 1) (k + 1) (xs ++ [(L.getD k default).nm]) (by omega) (by omega)
      refine ⟨v', ?_⟩
      rw [List.append_assoc] at e
      exact e
  · rw [decide_eq_false (show ¬ (k : Int) < (L.length : Int) by omega), cond_false, List.drop_eq_nil_of_le (by omega)]
    exact ⟨v, by unfold under; simp⟩
/-- Which stone has a name, by both. -/
theorem r31a_run {w : WD} {st : ByteArray} (hn : w.n ≤ 10000) :
 (r59d.v w.n w.g st = -1 ∧ L31a.run w st 0 = .e1) ∨ ∃ j, j < w.n ∧ r59d.v w.n w.g st = (j : Int) ∧ r31.v1 w st = true ∧ r31.v0 w st = under (w.g j) (corR w.g (IntKind.i64.wrap ((w.g j).co - 1)) w.n) := by
 rw [r59d_srch hn]
 rcases srch_cases (fun i => r60.v (w.g i) st) (fun i => (i : Int)) (-1) w.n 0 with ⟨a1, a2⟩ | ⟨j, a1, a2, a3, a4, a5⟩
 · refine .inl ⟨a2, ?_⟩
   have := scan_eq (N := L31a.N w st) (n := w.n) (fun i => false) .e1 .e1 0 (fun k i _ h => by
    simp only [L31a.N, Int.toNat_natCast]
    have hf := a1 i (Nat.zero_le _) (by omega)
    unfold r60.v at hf
    rw [decide_eq_true (show (i : Int) < (w.n : Int) by omega), cond_true, wrap_s (Nat.le_of_lt h) (by omega), hf]; rfl) (fun k i _ h => by
    simp only [L31a.N]
    rw [decide_eq_false (show ¬ (i : Int) < (w.n : Int) by omega), cond_false]) (((w.n : Int) - ((0 : Nat) : Int)).toNat + 1) 0 (Nat.zero_le _) (by omega)
   have e : L31a.run w st 0 = (bif anyN w.n (fun j => decide (0 ≤ j) && false) then L31a.O.e1 else L31a.O.e1) := this
   rw [e]
   cases anyN w.n (fun j => decide (0 ≤ j) && false) <;> rfl
 · refine .inr ⟨j, by omega, a5, ?_⟩
   obtain ⟨v', e⟩ := r31b (w.g j) (corR w.g (IntKind.i64.wrap ((w.g j).co - 1)) w.n) (cor_le hn _)
   have go : ∀ (d i q : Nat), i + d = j → d < q → L31a.N w st q (i : Int) = L31a.N w st (q - d) (j : Int) := by
    intro d
    induction d with
    | zero => intro i q hi _; rw [show i = j by omega]; rfl
    | succ d ih =>
     intro i q hi hq
     obtain ⟨q, rfl⟩ : ∃ p, q = p + 1 := ⟨q - 1, by omega⟩
     have hf := a4 i (Nat.zero_le _) (by omega)
     unfold r60.v at hf
     rw [show q + 1 - (d + 1) = q - d by omega, ← ih (i + 1) q (by omega) (by omega)]
     simp only [L31a.N, Int.toNat_natCast]
     rw [decide_eq_true (show (i : Int) < (w.n : Int) by omega), cond_true, wrap_s (n := i) (Nat.le_refl _) (by omega), hf]; rfl
   have hrun : L31a.run w st 0 = L31a.N w st ((((w.n : Int) - 0).toNat + 1) - j) (j : Int) := by
    unfold L31a.run
    exact go j 0 _ (by omega) (by omega)
   obtain ⟨q, hq⟩ : ∃ q, (((w.n : Int) - 0).toNat + 1) - j = q + 1 := ⟨(((w.n : Int) - 0).toNat + 1) - j - 1, by omega⟩
   rw [hq] at hrun
   simp only [L31a.N, Int.toNat_natCast] at hrun
   unfold r60.v at a3
   rw [decide_eq_true (show (j : Int) < (w.n : Int) by omega), cond_true, a3, cond_true, e] at hrun
   unfold r31.v1 r31.v0
   rw [hrun]
   exact ⟨rfl, rfl⟩
theorem corR_none {g : Nat → SD} {n : Nat} (h : ∀ i, i < n → 0 ≤ (g i).co) : ∀ i, i ≤ n → corR g (-1) i = [] := by
 intro i
 induction i with
 | zero => intro _; rfl
 | succ i ih =>
  intro hi
  unfold corR
  rw [if_neg (by have := h i (by omega); omega)]
  exact ih (by omega)
/-- Rests of both. -/
theorem rests_eq {w : WD} {st : ByteArray} (hn : w.n ≤ 10000) (he : (r24.v w == 0) = true) :
 (r31.v1 w st = false ∧ v25.v1 w st = 3 ∧ v25.v0 w st = []) ∨ (r31.v1 w st = true ∧ v25.v1 w st = 0 ∧ v25.v0 w st = r31.v0 w st) := by
 rcases r31a_run (st := st) hn with ⟨a1, a2⟩ | ⟨j, hj, a1, a2, a3⟩
 · refine .inl ⟨by unfold r31.v1; rw [a2], ?_, ?_⟩
   · unfold v25.v1; rw [a1]; rfl
   · unfold v25.v0; rw [a1]; rfl
 · refine .inr ⟨a2, ?_⟩
   have hco := v_co hn he j hj
   rw [a3]
   have d0 : decide (((j : Nat) : Int) < 0) = false := decide_eq_false (by omega)
   by_cases h0 : (w.g j).co = 0
   · have e0 : ((w.g j).co == 0) = true := by rw [h0]; rfl
     unfold v25.v1 v25.v0
     rw [a1, d0, Int.toNat_natCast, e0, h0]
     refine ⟨rfl, ?_⟩
     rw [show IntKind.i64.wrap (0 - 1) = -1 by rw [IntWalk.i64_in _ (by omega)]; omega, corR_none (fun i hi => (v_co hn he i hi).1) _ (Nat.le_refl _)]
     rfl
   · have e0 : ((w.g j).co == 0) = false := by simpa using h0
     have ew : IntKind.i64.wrap ((w.g j).co - 1) = (((w.g j).co - 1).toNat : Int) := by rw [IntWalk.i64_in _ (by omega)]; omega
     have hc : corR w.g (IntKind.i64.wrap ((w.g j).co - 1)) w.n = cC w (IntKind.i64.wrap ((w.g j).co - 1)).toNat := by rw [ew, v_cor hn he, Int.toNat_natCast]
     obtain ⟨v', e⟩ := v25_N (w := w) (st := st) (w.g j) (by rw [a1, Int.toNat_natCast]) _ rfl (cC_len hn _) ((((cC w (IntKind.i64.wrap ((w.g (r59d.v w.n w.g st).toNat).co - 1)).toNat).length : Int) - ((0 : Nat) : Int)).toNat + 1) 0 0 [] (Nat.zero_le _) (by omega)
     rw [List.drop_zero, List.nil_append] at e
     have e2 : Lv25a.run w st 0 [] 0 = .e0 v' (under (w.g j) (cC w (IntKind.i64.wrap ((w.g j).co - 1)).toNat)) := by
      have : Lv25a.run w st 0 [] 0 = _ := e
      rw [this, a1, Int.toNat_natCast]
     unfold v25.v1 v25.v0
     rw [e2, a1, d0, Int.toNat_natCast, e0, hc]
     exact ⟨rfl, rfl⟩
theorem v25_len {w : WD} {st : ByteArray} (hn : w.n ≤ 10000) (he : (r24.v w == 0) = true) : (v25.v0 w st).length ≤ 1000000 := by
 rcases rests_eq (st := st) hn he with ⟨_, _, e⟩ | ⟨_, _, e⟩
 · rw [e]; exact Nat.zero_le _
 · rw [e]
   rcases r31a_run (st := st) hn with ⟨a1, a2⟩ | ⟨j, hj, a1, a2, a3⟩
   · unfold r31.v0; rw [a2]; exact Nat.zero_le _
   · rw [a3]; have := under_len (w.g j) (corR w.g (IntKind.i64.wrap ((w.g j).co - 1)) w.n); have := cor_le hn (IntKind.i64.wrap ((w.g j).co - 1)); omega
theorem r31_len {w : WD} {st : ByteArray} (hn : w.n ≤ 10000) : (r31.v0 w st).length ≤ 1000000 := by
 rcases r31a_run (st := st) hn with ⟨a1, a2⟩ | ⟨j, hj, a1, a2, a3⟩
 · unfold r31.v0; rw [a2]; exact Nat.zero_le _
 · rw [a3]; have := under_len (w.g j) (corR w.g (IntKind.i64.wrap ((w.g j).co - 1)) w.n); have := cor_le hn (IntKind.i64.wrap ((w.g j).co - 1)); omega
end Go.Proofs.Ytjdbmmilcihpoaa
open Go
namespace Go.Proofs.Ytjdbmmilcihpoaa
set_option linter.unusedSimpArgs false
set_option linter.unusedVariables false
set_option maxHeartbeats 0
set_option maxRecDepth 100000
theorem len_cm {w : WD} (h : r20.v w = true) (k : Nat) : (List.map SD.nm (cC w k)).length ≤ 1000000 := by have := cC_len (small_n h) k; rw [List.length_map]; omega
theorem len_rm {w : WD} (h : r20.v w = true) (c : Int) : (List.map SD.nm (corR w.g c w.n)).length ≤ 1000000 := by have := cor_le (small_n h) c; rw [List.length_map]; omega
theorem len_25 {w : WD} {st : ByteArray} (h : r20.v w = true) (hnm : w.nm.size ≤ 9223372036854775807) (hg : ∀ i, (w.g i).nm.size ≤ 9223372036854775807) (he : (r21.v w == 0) = true) : (v25.v0 w st).length ≤ 1000000 := v25_len (small_n h) (chk0 h hnm hg he)
theorem len_31 {w : WD} {st : ByteArray} (h : r20.v w = true) : (r31.v0 w st).length ≤ 1000000 := r31_len (small_n h)
theorem len_29 {w : WD} {c : Int} (h : r20.v w = true) : (v29.v0 w c).length ≤ 9223372036854775807 := by
 unfold v29.v0
 have := cC_len (small_n h) c.toNat
 rw [r45_v this]
 cases decide (c < 0) <;> cases decide (c ≥ (nC w : Int)) <;> simp only [cond_true, cond_false, List.length_nil, jts_len] <;> omega
theorem len_30 {w : WD} {c : Int} (h : r20.v w = true) : (r30.v w c).length ≤ 9223372036854775807 := by
 have := cor_le (small_n h) c
 rw [r30_v (small_n h), jts_len]; omega
noncomputable abbrev r7x.h0 (w : WD) (c : Int) (st : ByteArray) : AHeap := ([AObj.var (WD.av w)])
theorem r7x (w : WD) (hw : w.n ≤ 9223372036854775807) (hnm : w.nm.size ≤ 9223372036854775807) (hg : ∀ (i : Nat), (w.g i).nm.size ≤ 9223372036854775807) (c : Int) (st : ByteArray) (hst : st.size ≤ 9223372036854775807) (h20 : r20.v w = false) (h : AHeap) : Ret Try.prog 7 ([w.av, iv c, AV.str st]) h (AV.bool true) h := by
 have o0 : w.n ≤ (9223372036854775807 : Nat) := by assumption
 exact Ret.of_run1 mix [(AV.bool true)] Try.func7 rfl [.ret (AV.bool r9.v) (r7x.h0 w c st), .b false, .ret (AV.bool (r20.v w)) (r7x.h0 w c st), .b true, .b true, .b true, .b true, .b true, .b true, .b true, .b true, .b true] (by simp) (by simp) (kmp (by kernel_rfl) (Ai (r9 (r7x.h0 w c st)) (Ai (rfl : false = false) (Ai (r20 (w) o0 (r7x.h0 w c st)) (Ai (show (bnot (r20.v w)) = true by rw [h20]; try rfl) (Ai (show (bnot (r20.v w)) = true by rw [h20]; try rfl) (Ai (show (bnot (r20.v w)) = true by rw [h20]; try rfl) (Ai (show (bnot (r20.v w)) = true by rw [h20]; try rfl) (Ai (rfl : true = true) (Ai (rfl : true = true) (Ai (rfl : true = true) (Ai (rfl : true = true) (Ai (rfl : true = true) (Ai (show (AV.bool true) = ((AV.bool true)) by simp only [h20, cond_true, cond_false]) trivial)))))))))))))) h
noncomputable abbrev r7y.h0 (w : WD) (c : Int) (st : ByteArray) : AHeap := ([AObj.var (WD.av w)])
theorem r7y (w : WD) (hw : w.n ≤ 9223372036854775807) (hnm : w.nm.size ≤ 9223372036854775807) (hg : ∀ (i : Nat), (w.g i).nm.size ≤ 9223372036854775807) (c : Int) (st : ByteArray) (hst : st.size ≤ 9223372036854775807) (h20 : r20.v w = true) (hz : (r21.v w == 0) = false) (h : AHeap) : Ret Try.prog 7 ([w.av, iv c, AV.str st]) h (AV.bool true) h := by
 have o0 : w.n ≤ (9223372036854775807 : Nat) := by assumption
 have o1 : w.n ≤ (10000 : Nat) := by first | assumption | omega | (apply small_n <;> first | assumption | omega) | (exact hg _) | (exact hg _ (by omega)) | (simp_all; done)
 have o2 : w.nm.size ≤ (9223372036854775807 : Nat) := by assumption
 have o3 : ∀ (i : Nat), (w.g i).nm.size ≤ (9223372036854775807 : Nat) := by assumption
 exact Ret.of_run1 mix [(AV.bool true)] Try.func7 rfl [.ret (AV.bool r9.v) (r7y.h0 w c st), .b false, .ret (AV.bool (r20.v w)) (r7y.h0 w c st), .b false, .b false, .ret (iv (r21.v w)) (r7y.h0 w c st), .b false, .b false, .b true, .b true, .b true, .b true, .b true] (by simp) (by simp) (kmp (by kernel_rfl) (Ai (r9 (r7y.h0 w c st)) (Ai (rfl : false = false) (Ai (r20 (w) o0 (r7y.h0 w c st)) (Ai (show (bnot (r20.v w)) = false by rw [h20]; try rfl) (Ai (show (bnot (r20.v w)) = false by rw [h20]; try rfl) (Ai (r21 (w) o1 o2 o3 (r7y.h0 w c st)) (Ai (show (bnot (r20.v w)) = false by rw [h20]; try rfl) (Ai (show (bnot (r20.v w)) = false by rw [h20]; try rfl) (Ai (show (bnot (r21.v w == 0)) = true by rw [hz]; try rfl) (Ai (show (bnot (r21.v w == 0)) = true by rw [hz]; try rfl) (Ai (show (bnot (r21.v w == 0)) = true by rw [hz]; try rfl) (Ai (show (bnot (r21.v w == 0)) = true by rw [hz]; try rfl) (Ai (rfl : true = true) (Ai (show (AV.bool true) = ((AV.bool true)) by simp only [h20, hz, cond_true, cond_false]) trivial))))))))))))))) h
noncomputable abbrev r7z.h0 (w : WD) (c : Int) (st : ByteArray) : AHeap := ([AObj.var (WD.av w)])
theorem r7z (w : WD) (hw : w.n ≤ 9223372036854775807) (hnm : w.nm.size ≤ 9223372036854775807) (hg : ∀ (i : Nat), (w.g i).nm.size ≤ 9223372036854775807) (c : Int) (st : ByteArray) (hst : st.size ≤ 9223372036854775807) (h20 : r20.v w = true) (hz : (r21.v w == 0) = true) (hs : decide ((↑st.size : Int) > 100) = true) (h : AHeap) : Ret Try.prog 7 ([w.av, iv c, AV.str st]) h (AV.bool true) h := by
 have o0 : w.n ≤ (9223372036854775807 : Nat) := by assumption
 have o1 : w.n ≤ (10000 : Nat) := by first | assumption | omega | (apply small_n <;> first | assumption | omega) | (exact hg _) | (exact hg _ (by omega)) | (simp_all; done)
 have o2 : w.nm.size ≤ (9223372036854775807 : Nat) := by assumption
 have o3 : ∀ (i : Nat), (w.g i).nm.size ≤ (9223372036854775807 : Nat) := by assumption
 exact Ret.of_run1 mix [(AV.bool true)] Try.func7 rfl [.ret (AV.bool r9.v) (r7z.h0 w c st), .b false, .ret (AV.bool (r20.v w)) (r7z.h0 w c st), .b false, .b false, .ret (iv (r21.v w)) (r7z.h0 w c st), .b false, .b false, .b false, .b false, .b false, .b false, .b true] (by simp) (by simp) (kmp (by kernel_rfl) (Ai (r9 (r7z.h0 w c st)) (Ai (rfl : false = false) (Ai (r20 (w) o0 (r7z.h0 w c st)) (Ai (show (bnot (r20.v w)) = false by rw [h20]; try rfl) (Ai (show (bnot (r20.v w)) = false by rw [h20]; try rfl) (Ai (r21 (w) o1 o2 o3 (r7z.h0 w c st)) (Ai (show (bnot (r20.v w)) = false by rw [h20]; try rfl) (Ai (show (bnot (r20.v w)) = false by rw [h20]; try rfl) (Ai (show (bnot (r21.v w == 0)) = false by rw [hz]; try rfl) (Ai (show (bnot (r21.v w == 0)) = false by rw [hz]; try rfl) (Ai (show (bnot (r21.v w == 0)) = false by rw [hz]; try rfl) (Ai (show (bnot (r21.v w == 0)) = false by rw [hz]; try rfl) (Ai hs (Ai (show (AV.bool true) = ((AV.bool true)) by simp only [h20, hz, cond_true, cond_false]) trivial))))))))))))))) h
end Go.Proofs.Ytjdbmmilcihpoaa
open Go
namespace Go.Proofs.Ytjdbmmilcihpoaa
set_option linter.unusedSimpArgs false
set_option linter.unusedVariables false
set_option maxHeartbeats 0
set_option maxRecDepth 100000
theorem nN7 {w : WD} (h : r20.v w = true) (hnm : w.nm.size ≤ 9223372036854775807) (hg : ∀ i, (w.g i).nm.size ≤ 9223372036854775807) (he : (r21.v w == 0) = true) : nC w ≤ 1000 := v_N (small_n h) (chk0 h hnm hg he)
inductive L7l.O where
 | e0
 | e1
noncomputable def L7l.T (w : WD) (c : Int) (st : ByteArray) (i : Int) : List AV := mkT 130 [(1, iv c), (2, AV.str st), (3, AV.ptr 0 1 6 0 0), (7, nms (nC w) fun (j : Nat) => List.map SD.nm (cC w j)), (9, nms (r41.v w + 1).toNat fun (j : Nat) => List.map SD.nm (corR w.g (↑j : Int) w.n)), (10, iv i)]
noncomputable def L7l.H (w : WD) (c : Int) (st : ByteArray) (i : Int) : AHeap := [AObj.var w.av]
def L7l.inv (w : WD) (c : Int) (st : ByteArray) (i : Int) : Prop := 0 ≤ i ∧ i ≤ (↑(nC w) : Int)
noncomputable def L7l.mu (w : WD) (c : Int) (st : ByteArray) (i : Int) : Nat := ((↑(nC w) : Int) - i).toNat
noncomputable def L7l.E : L7l.O → Exit
 | .e0 => Exit.ret
 | .e1 => Exit.exit 0
noncomputable def L7l.X (w : WD) (c : Int) (st : ByteArray) : L7l.O → List AV
 | .e0 => mkT 130 [(6, (AV.bool false))]
 | .e1 => mkT 130 [(1, (iv c)), (2, (AV.str st)), (3, (AV.ptr 0 1 6 0 0)), (9, (AV.sl 1 (r41.v w + 1).toNat fun (j : Nat) => AV.sl 1 ((fun (j : Nat) => List.map SD.nm (corR w.g (↑j : Int) w.n)) j).length fun (q : Nat) => AV.str (((fun (j : Nat) => List.map SD.nm (corR w.g (↑j : Int) w.n)) j).getD q ByteArray.empty)))]
noncomputable def L7l.XH (w : WD) (c : Int) (st : ByteArray) : L7l.O → AHeap
 | .e0 => ([AObj.var (WD.av w)])
 | .e1 => ([AObj.var (WD.av w)])
noncomputable def L7l.N (w : WD) : Nat → Int → L7l.O
 | 0, _ => .e0
 | k_ + 1, i => (bif decide (i < (↑(nC w) : Int)) then (bif r28.v (List.map SD.nm (cC w i.toNat)).length (fun (i_1 : Nat) => (List.map SD.nm (cC w i.toNat)).getD i_1 ByteArray.empty) (List.map SD.nm (corR w.g (↑i.toNat : Int) w.n)).length fun (i_1 : Nat) => (List.map SD.nm (corR w.g (↑i.toNat : Int) w.n)).getD i_1 ByteArray.empty then (L7l.N w k_ (IntKind.i64.wrap (i + 1))) else (.e0)) else (.e1))
noncomputable def L7l.run (w : WD) (i : Int) : L7l.O := L7l.N w ((((↑(nC w) : Int) - i).toNat) + 1) i
theorem L7l.nx (w : WD) (c : Int) (st : ByteArray) {k_ : Nat} {z_ : Int} {h_ : AHeap} (s_ : Int) (h1 : L7l.inv w c st s_) (h2 : L7l.mu w c st s_ < L7l.mu w c st z_) (h3 : L7l.N w k_ s_ = L7l.N w (k_ + 1) z_) (h4 : PopOk (L7l.H w c st z_) h_ (L7l.T w c st s_) (L7l.H w c st s_)) : LNextP (L7l.T w c st) (L7l.H w c st) (L7l.inv w c st) (L7l.mu w c st) (L7l.N w) k_ z_ (L7l.T w c st s_) h_ := LNextP.mk s_ h1 h2 h3 h4
theorem L7l.en (w : WD) (c : Int) (st : ByteArray) {k_ : Nat} {z_ : Int} {h_ : AHeap} (o_ : L7l.O) (h3 : L7l.N w (k_ + 1) z_ = o_) (h4 : PopOk (L7l.H w c st z_) h_ (L7l.X w c st o_) (L7l.XH w c st o_)) : LEndP (L7l.H w c st) (L7l.N w) L7l.E (L7l.X w c st) (L7l.XH w c st) k_ z_ (L7l.E o_) (L7l.X w c st o_) h_ := LEndP.mk o_ h3 h4
noncomputable abbrev L7l.h0 (w : WD) (c : Int) (st : ByteArray) (i : Int) : AHeap := ([AObj.var (WD.av w)])
theorem L7l.spec (w : WD) (h20 : r20.v w = true) (hN1 : nC w ≤ 1000) (hl : ((↑(nC w) : Int) == (↑(r41.v w + 1).toNat : Int)) = true) (c : Int) (st : ByteArray) (k_ : Nat) (z_ : Int) (hi_ : L7l.inv w c st z_) (hm_ : L7l.mu w c st z_ < k_) : LoopTo Try.prog (loopN Try.f7 0) (L7l.T w c st z_) (L7l.H w c st z_) (L7l.E (L7l.N w k_ z_)) (L7l.X w c st (L7l.N w k_ z_)) (L7l.XH w c st (L7l.N w k_ z_)) := by
 refine LoopTo.fuelP mix (L7l.T w c st) (L7l.H w c st) (L7l.inv w c st) (L7l.mu w c st) (L7l.N w) L7l.E (L7l.X w c st) (L7l.XH w c st) (others 130 [1, 2, 3, 7, 9, 10]) (others 130 [6]) (others 130 [1, 2, 3, 9]) ?_ k_ z_ hi_ hm_
 clear hm_ hi_ z_ k_
 intro k_ z_ hinv hmu
 revert hinv hmu; revert z_; intro i hinv hmu
 have hinv : 0 ≤ i ∧ i ≤ (↑(nC w) : Int) := hinv
 have hmu : (((↑(nC w) : Int) - i).toNat) < k_ + 1 := hmu
 cases h1 : decide (i < (↑(nC w) : Int)) with
 | true =>
  have h1p := of_decide_eq_true h1
  have o0 : (0 : Int) ≤ i := by omega
  have o1 : i < (↑(nC w) : Int) := by assumption
  have o2 : i < (↑(r41.v w + (1 : Int)).toNat : Int) := by simp_all
  have o3 : ((fun (j : Nat) => List.map SD.nm (cC w j)) i.toNat).length ≤ (1000000 : Nat) := by first | assumption | omega | (simp only [List.length_append, List.length_cons, List.length_nil, List.length_map]; omega) | (apply len_cm <;> first | assumption | omega) | (simp_all; done)
  have o4 : ((fun (j : Nat) => List.map SD.nm (corR w.g (↑j : Int) w.n)) i.toNat).length ≤ (1000000 : Nat) := by first | assumption | omega | (simp only [List.length_append, List.length_cons, List.length_nil, List.length_map]; omega) | (apply len_rm <;> first | assumption | omega) | (simp_all; done)
  cases h2 : r28.v (List.map SD.nm (cC w i.toNat)).length (fun (i_1 : Nat) => (List.map SD.nm (cC w i.toNat)).getD i_1 ByteArray.empty) (List.map SD.nm (corR w.g (↑i.toNat : Int) w.n)).length fun (i_1 : Nat) => (List.map SD.nm (corR w.g (↑i.toNat : Int) w.n)).getD i_1 ByteArray.empty with
  | true =>
   try have := IntWalk.i64_in (i + 1) (by omega)
   have o5 : (0 : Int) ≤ IntKind.i64.wrap (i + (1 : Int)) := by omega
   have o6 : IntKind.i64.wrap (i + (1 : Int)) ≤ (↑(nC w) : Int) := by omega
   have o7 : ((↑(nC w) : Int) - IntKind.i64.wrap (i + (1 : Int))).toNat < ((↑(nC w) : Int) - i).toNat := by omega
   exact ⟨[.b true, .ret (AV.bool (r28.v ((fun (j : Nat) => List.map SD.nm (cC w j)) i.toNat).length (fun (i_1 : Nat) => ((fun (j : Nat) => List.map SD.nm (cC w j)) i.toNat).getD i_1 ByteArray.empty) ((fun (j : Nat) => List.map SD.nm (corR w.g (↑j : Int) w.n)) i.toNat).length fun (i_1 : Nat) => ((fun (j : Nat) => List.map SD.nm (corR w.g (↑j : Int) w.n)) i.toNat).getD i_1 ByteArray.empty)) (L7l.h0 w c st i), .b false], kmp (by kernel_rfl) (Ai h1 (Ai (Ai o0 o1) (Ai (Ai o0 o2) (Ai (r28 (((fun (j : Nat) => List.map SD.nm (cC w j)) i.toNat).length) (fun (i_1 : Nat) => ((fun (j : Nat) => List.map SD.nm (cC w j)) i.toNat).getD i_1 ByteArray.empty) o3 (((fun (j : Nat) => List.map SD.nm (corR w.g (↑j : Int) w.n)) i.toNat).length) (fun (i_1 : Nat) => ((fun (j : Nat) => List.map SD.nm (corR w.g (↑j : Int) w.n)) i.toNat).getD i_1 ByteArray.empty) o4 (L7l.h0 w c st i)) (Ai (show (bnot (r28.v (List.map SD.nm (cC w i.toNat)).length (fun (i_1 : Nat) => (List.map SD.nm (cC w i.toNat)).getD i_1 ByteArray.empty) (List.map SD.nm (corR w.g (↑i.toNat : Int) w.n)).length fun (i_1 : Nat) => (List.map SD.nm (corR w.g (↑i.toNat : Int) w.n)).getD i_1 ByteArray.empty)) = false by rw [h2]; try rfl) (L7l.nx w c st (k_ := k_) (z_ := i) (IntKind.i64.wrap (i + 1)) (Ai o5 o6) o7 (by simp only [L7l.N, h1, h2, cond_true, cond_false]) PopOk.same))))))⟩
  | false =>
   exact ⟨[.b true, .ret (AV.bool (r28.v ((fun (j : Nat) => List.map SD.nm (cC w j)) i.toNat).length (fun (i_1 : Nat) => ((fun (j : Nat) => List.map SD.nm (cC w j)) i.toNat).getD i_1 ByteArray.empty) ((fun (j : Nat) => List.map SD.nm (corR w.g (↑j : Int) w.n)) i.toNat).length fun (i_1 : Nat) => ((fun (j : Nat) => List.map SD.nm (corR w.g (↑j : Int) w.n)) i.toNat).getD i_1 ByteArray.empty)) (L7l.h0 w c st i), .b true], kmp (by kernel_rfl) (Ai h1 (Ai (Ai o0 o1) (Ai (Ai o0 o2) (Ai (r28 (((fun (j : Nat) => List.map SD.nm (cC w j)) i.toNat).length) (fun (i_1 : Nat) => ((fun (j : Nat) => List.map SD.nm (cC w j)) i.toNat).getD i_1 ByteArray.empty) o3 (((fun (j : Nat) => List.map SD.nm (corR w.g (↑j : Int) w.n)) i.toNat).length) (fun (i_1 : Nat) => ((fun (j : Nat) => List.map SD.nm (corR w.g (↑j : Int) w.n)) i.toNat).getD i_1 ByteArray.empty) o4 (L7l.h0 w c st i)) (Ai (show (bnot (r28.v (List.map SD.nm (cC w i.toNat)).length (fun (i_1 : Nat) => (List.map SD.nm (cC w i.toNat)).getD i_1 ByteArray.empty) (List.map SD.nm (corR w.g (↑i.toNat : Int) w.n)).length fun (i_1 : Nat) => (List.map SD.nm (corR w.g (↑i.toNat : Int) w.n)).getD i_1 ByteArray.empty)) = true by rw [h2]; try rfl) (L7l.en w c st (k_ := k_) (z_ := i) (.e0 : L7l.O) (by simp only [L7l.N, h1, h2, cond_true, cond_false]) PopOk.same))))))⟩
 | false =>
  have h1p := of_decide_eq_false h1
  exact ⟨[.b false], kmp (by kernel_rfl) (Ai h1 (L7l.en w c st (k_ := k_) (z_ := i) (.e1 : L7l.O) (by simp only [L7l.N, h1, cond_true, cond_false]) PopOk.same))⟩
theorem L7l.e0 (w : WD) (h20 : r20.v w = true) (hN1 : nC w ≤ 1000) (hl : ((↑(nC w) : Int) == (↑(r41.v w + 1).toNat : Int)) = true) (c : Int) (st : ByteArray) (i : Int) (hinv : L7l.inv w c st i) (hN : L7l.run w i = (.e0 : L7l.O)) : LoopTo Try.prog (loopN Try.f7 0) (L7l.T w c st i) (L7l.H w c st i) (Exit.ret) (L7l.X w c st (.e0 : L7l.O)) (L7l.XH w c st (.e0 : L7l.O)) := by
 have h_ := L7l.spec w h20 hN1 hl c st ((((↑(nC w) : Int) - i).toNat) + 1) i hinv (Nat.lt_succ_self _)
 unfold L7l.run at hN
 simp only [hN] at h_
 exact h_
theorem L7l.e1 (w : WD) (h20 : r20.v w = true) (hN1 : nC w ≤ 1000) (hl : ((↑(nC w) : Int) == (↑(r41.v w + 1).toNat : Int)) = true) (c : Int) (st : ByteArray) (i : Int) (hinv : L7l.inv w c st i) (hN : L7l.run w i = (.e1 : L7l.O)) : LoopTo Try.prog (loopN Try.f7 0) (L7l.T w c st i) (L7l.H w c st i) (Exit.exit 0) (L7l.X w c st (.e1 : L7l.O)) (L7l.XH w c st (.e1 : L7l.O)) := by
 have h_ := L7l.spec w h20 hN1 hl c st ((((↑(nC w) : Int) - i).toNat) + 1) i hinv (Nat.lt_succ_self _)
 unfold L7l.run at hN
 simp only [hN] at h_
 exact h_
noncomputable def r7ap.v (w : WD) : Bool := (match L7l.run w 0 with | .e0 => false | .e1 => true )
noncomputable abbrev r7ap.h0 (w : WD) (c : Int) (st : ByteArray) : AHeap := ([AObj.var (WD.av w)])
theorem r7ap (w : WD) (hw : w.n ≤ 9223372036854775807) (hnm : w.nm.size ≤ 9223372036854775807) (hg : ∀ (i : Nat), (w.g i).nm.size ≤ 9223372036854775807) (c : Int) (st : ByteArray) (hst : st.size ≤ 9223372036854775807) (h20 : r20.v w = true) (hz : (r21.v w == 0) = true) (hs : decide ((↑st.size : Int) > 100) = false) (hl : ((↑(nC w) : Int) == (↑(r41.v w + 1).toNat : Int)) = true) (c1 : decide (c < 0) = true) (c2 : (v29.v1 w c == 3) = true) (c5 : ((↑(v29.v0 w c).length : Int) == 0) = true) (q1 : r31.v1 w st = true) (q2 : (v25.v1 w st == 0) = true) (q3 : (r28.v (v25.v0 w st).length (fun (i : Nat) => (v25.v0 w st).getD i ByteArray.empty) (r31.v0 w st).length fun (i : Nat) => (r31.v0 w st).getD i ByteArray.empty) = true) (h : AHeap) : Ret Try.prog 7 ([w.av, iv c, AV.str st]) h (AV.bool (r7ap.v w)) h := by
 have o0 : w.n ≤ (9223372036854775807 : Nat) := by assumption
 have o1 : w.n ≤ (10000 : Nat) := by first | assumption | omega | (apply small_n <;> first | assumption | omega) | (exact hg _) | (exact hg _ (by omega)) | (simp_all; done)
 have o2 : w.nm.size ≤ (9223372036854775807 : Nat) := by assumption
 have o3 : ∀ (i : Nat), (w.g i).nm.size ≤ (9223372036854775807 : Nat) := by assumption
 have o4 : (r24.v w == (0 : Int)) = true := by first | assumption | omega | (apply chk0 <;> first | assumption | omega) | (apply chk1 <;> first | assumption | omega) | (exact hg _) | (exact hg _ (by omega)) | (simp_all; done)
 have o5 : r41.v w ≤ (99 : Int) := by first | assumption | omega | (apply top0 <;> first | assumption | omega) | (exact hg _) | (exact hg _ (by omega)) | (simp_all; done)
 have o6 : (-1 : Int) ≤ r41.v w := by first | assumption | omega | (apply top1 <;> first | assumption | omega) | (exact hg _) | (exact hg _ (by omega)) | (simp_all; done)
 have o7 : r20.v w = true := by assumption
 have o8 : nC w ≤ (1000 : Nat) := by first | assumption | omega | (apply nN7 <;> first | assumption | omega) | (exact hg _) | (exact hg _ (by omega)) | (simp_all; done)
 have o9 : ((↑(nC w) : Int) == (↑(r41.v w + (1 : Int)).toNat : Int)) = true := by assumption
 have o10 : (0 : Int) ≤ (↑(nC w) : Int) := by omega
 cases h1 : L7l.run w 0 with
 | e0 =>
  exact Ret.of_run1 mix [(AV.bool (r7ap.v w))] Try.func7 rfl [.ret (AV.bool r9.v) (r7ap.h0 w c st), .b false, .ret (AV.bool (r20.v w)) (r7ap.h0 w c st), .b false, .b false, .ret (iv (r21.v w)) (r7ap.h0 w c st), .b false, .b false, .b false, .b false, .b false, .b false, .b false, .ret (AV.tup [AV.sl 1 (nC w) fun (j : Nat) => AV.sl 1 ((fun (j : Nat) => List.map SD.nm (cC w j)) j).length fun (q : Nat) => AV.str (((fun (j : Nat) => List.map SD.nm (cC w j)) j).getD q ByteArray.empty), iv 0]) (r7ap.h0 w c st), .ret (AV.sl 1 (r41.v w + 1).toNat fun (j : Nat) => AV.sl 1 ((fun (j : Nat) => List.map SD.nm (corR w.g (↑j : Int) w.n)) j).length fun (q : Nat) => AV.str (((fun (j : Nat) => List.map SD.nm (corR w.g (↑j : Int) w.n)) j).getD q ByteArray.empty)) (r7ap.h0 w c st), .b false, .b false, .b false, .b false, .b false, .b false, .b false, .loop (others 130 [1, 2, 3, 7, 9, 10]) (Exit.ret) (L7l.X w c st L7l.O.e0) (L7l.XH w c st L7l.O.e0)] (by simp) (by simp) (kmp (by kernel_rfl) (Ai (r9 (r7ap.h0 w c st)) (Ai (rfl : false = false) (Ai (r20 (w) o0 (r7ap.h0 w c st)) (Ai (show (bnot (r20.v w)) = false by rw [h20]; try rfl) (Ai (show (bnot (r20.v w)) = false by rw [h20]; try rfl) (Ai (r21 (w) o1 o2 o3 (r7ap.h0 w c st)) (Ai (show (bnot (r20.v w)) = false by rw [h20]; try rfl) (Ai (show (bnot (r20.v w)) = false by rw [h20]; try rfl) (Ai (show (bnot (r21.v w == 0)) = false by rw [hz]; try rfl) (Ai (show (bnot (r21.v w == 0)) = false by rw [hz]; try rfl) (Ai (show (bnot (r21.v w == 0)) = false by rw [hz]; try rfl) (Ai (show (bnot (r21.v w == 0)) = false by rw [hz]; try rfl) (Ai hs (Ai (v26 (w) o1 o2 o3 o4 (r7ap.h0 w c st)) (Ai (r27 (w) o1 o5 o6 (r7ap.h0 w c st)) (Ai (rfl : false = false) (Ai (rfl : false = false) (Ai (rfl : false = false) (Ai (rfl : false = false) (Ai (rfl : false = false) (Ai (rfl : false = false) (Ai (show (bnot ((↑(nC w) : Int) == (↑(r41.v w + 1).toNat : Int))) = false by rw [hl]; try rfl) (Ai (L7l.e0 (w) o7 o8 o9 (c) (st) (0) (Ai (show (0 : Int) ≤ (0 : Int) by decide) o10) h1) (Ai (show (AV.bool false) = ((AV.bool (r7ap.v w))) by simp only [r7ap.v, h20, hz, hl, h1, cond_true, cond_false]) trivial))))))))))))))))))))))))) h
 | e1 =>
  have o11 : (v25.v0 w st).length ≤ (1000000 : Nat) := by first | assumption | omega | (simp only [List.length_append, List.length_cons, List.length_nil, List.length_map]; omega) | (apply len_25 <;> first | assumption | omega) | (exact hg _) | (exact hg _ (by omega)) | (simp_all; done)
  have o12 : (r31.v0 w st).length ≤ (1000000 : Nat) := by first | assumption | omega | (simp only [List.length_append, List.length_cons, List.length_nil, List.length_map]; omega) | (apply len_31 <;> first | assumption | omega) | (exact hg _) | (exact hg _ (by omega)) | (simp_all; done)
  exact Ret.of_run1 mix [(AV.bool (r7ap.v w))] Try.func7 rfl [.ret (AV.bool r9.v) (r7ap.h0 w c st), .b false, .ret (AV.bool (r20.v w)) (r7ap.h0 w c st), .b false, .b false, .ret (iv (r21.v w)) (r7ap.h0 w c st), .b false, .b false, .b false, .b false, .b false, .b false, .b false, .ret (AV.tup [AV.sl 1 (nC w) fun (j : Nat) => AV.sl 1 ((fun (j : Nat) => List.map SD.nm (cC w j)) j).length fun (q : Nat) => AV.str (((fun (j : Nat) => List.map SD.nm (cC w j)) j).getD q ByteArray.empty), iv 0]) (r7ap.h0 w c st), .ret (AV.sl 1 (r41.v w + 1).toNat fun (j : Nat) => AV.sl 1 ((fun (j : Nat) => List.map SD.nm (corR w.g (↑j : Int) w.n)) j).length fun (q : Nat) => AV.str (((fun (j : Nat) => List.map SD.nm (corR w.g (↑j : Int) w.n)) j).getD q ByteArray.empty)) (r7ap.h0 w c st), .b false, .b false, .b false, .b false, .b false, .b false, .b false, .loop (others 130 [1, 2, 3, 7, 9, 10]) (Exit.exit 0) (L7l.X w c st L7l.O.e1) (L7l.XH w c st L7l.O.e1), .ret (AV.tup [AV.sl 1 (v29.v0 w c).length fun (a : Nat) => iv ((v29.v0 w c).getD a 0), iv (v29.v1 w c)]) (r7ap.h0 w c st), .b true, .b true, .b true, .b true, .b true, .b true, .b false, .b false, .b false, .b false, .b false, .ret (AV.tup [AV.sl 1 (v25.v0 w st).length fun (a : Nat) => AV.str ((v25.v0 w st).getD a ByteArray.empty), iv (v25.v1 w st)]) (r7ap.h0 w c st), .ret (AV.tup [AV.sl 1 (r31.v0 w st).length fun (a : Nat) => AV.str ((r31.v0 w st).getD a ByteArray.empty), AV.bool (r31.v1 w st)]) (r7ap.h0 w c st), .b true, .b true, .b true, .b true, .b true, .b true, .ret (AV.bool (r28.v (v25.v0 w st).length (fun (i : Nat) => (v25.v0 w st).getD i ByteArray.empty) (r31.v0 w st).length fun (i : Nat) => (r31.v0 w st).getD i ByteArray.empty)) (r7ap.h0 w c st), .b true, .b true, .b true, .b true, .b true, .b true, .b true, .b true] (by simp) (by simp) (kmp (by kernel_rfl) (Ai (r9 (r7ap.h0 w c st)) (Ai (rfl : false = false) (Ai (r20 (w) o0 (r7ap.h0 w c st)) (Ai (show (bnot (r20.v w)) = false by rw [h20]; try rfl) (Ai (show (bnot (r20.v w)) = false by rw [h20]; try rfl) (Ai (r21 (w) o1 o2 o3 (r7ap.h0 w c st)) (Ai (show (bnot (r20.v w)) = false by rw [h20]; try rfl) (Ai (show (bnot (r20.v w)) = false by rw [h20]; try rfl) (Ai (show (bnot (r21.v w == 0)) = false by rw [hz]; try rfl) (Ai (show (bnot (r21.v w == 0)) = false by rw [hz]; try rfl) (Ai (show (bnot (r21.v w == 0)) = false by rw [hz]; try rfl) (Ai (show (bnot (r21.v w == 0)) = false by rw [hz]; try rfl) (Ai hs (Ai (v26 (w) o1 o2 o3 o4 (r7ap.h0 w c st)) (Ai (r27 (w) o1 o5 o6 (r7ap.h0 w c st)) (Ai (rfl : false = false) (Ai (rfl : false = false) (Ai (rfl : false = false) (Ai (rfl : false = false) (Ai (rfl : false = false) (Ai (rfl : false = false) (Ai (show (bnot ((↑(nC w) : Int) == (↑(r41.v w + 1).toNat : Int))) = false by rw [hl]; try rfl) (Ai (L7l.e1 (w) o7 o8 o9 (c) (st) (0) (Ai (show (0 : Int) ≤ (0 : Int) by decide) o10) h1) (Ai (v29 (w) o1 o2 o3 o4 (c) (r7ap.h0 w c st)) (Ai c1 (Ai c1 (Ai c1 (Ai c1 (Ai c1 (Ai (rfl : true = true) (Ai (show (bnot (v29.v1 w c == 3)) = false by rw [c2]; try rfl) (Ai (show (bnot (v29.v1 w c == 3)) = false by rw [c2]; try rfl) (Ai (show (bnot (v29.v1 w c == 3)) = false by rw [c2]; try rfl) (Ai (show (bnot (v29.v1 w c == 3)) = false by rw [c2]; try rfl) (Ai (show (bnot ((↑(v29.v0 w c).length : Int) == 0)) = false by rw [c5]; try rfl) (Ai (v25 (w) o1 o2 o3 o4 (st) (r7ap.h0 w c st)) (Ai (r31 (w) o1 (st) (r7ap.h0 w c st)) (Ai q1 (Ai q1 (Ai q1 (Ai q2 (Ai q2 (Ai q2 (Ai (r28 ((v25.v0 w st).length) (fun (i : Nat) => (v25.v0 w st).getD i ByteArray.empty) o11 ((r31.v0 w st).length) (fun (i : Nat) => (r31.v0 w st).getD i ByteArray.empty) o12 (r7ap.h0 w c st)) (Ai q2 (Ai q3 (Ai q3 (Ai q3 (Ai q3 (Ai q3 (Ai q3 (Ai q3 (Ai (show (AV.bool true) = ((AV.bool (r7ap.v w))) by simp only [r7ap.v, h20, hz, hl, c2, c5, h1, cond_true, cond_false]) trivial)))))))))))))))))))))))))))))))))))))))))))))))))))))) h
noncomputable def r7aq.v (w : WD) (st : ByteArray) : Bool := (match L7l.run w 0 with | .e0 => false | .e1 => (↑(v25.v0 w st).length : Int) == 0 )
noncomputable abbrev r7aq.h0 (w : WD) (c : Int) (st : ByteArray) : AHeap := ([AObj.var (WD.av w)])
theorem r7aq (w : WD) (hw : w.n ≤ 9223372036854775807) (hnm : w.nm.size ≤ 9223372036854775807) (hg : ∀ (i : Nat), (w.g i).nm.size ≤ 9223372036854775807) (c : Int) (st : ByteArray) (hst : st.size ≤ 9223372036854775807) (h20 : r20.v w = true) (hz : (r21.v w == 0) = true) (hs : decide ((↑st.size : Int) > 100) = false) (hl : ((↑(nC w) : Int) == (↑(r41.v w + 1).toNat : Int)) = true) (c1 : decide (c < 0) = true) (c2 : (v29.v1 w c == 3) = true) (c5 : ((↑(v29.v0 w c).length : Int) == 0) = true) (q1 : r31.v1 w st = false) (q2 : (v25.v1 w st == 3) = true) (h : AHeap) : Ret Try.prog 7 ([w.av, iv c, AV.str st]) h (AV.bool (r7aq.v w st)) h := by
 have o0 : w.n ≤ (9223372036854775807 : Nat) := by assumption
 have o1 : w.n ≤ (10000 : Nat) := by first | assumption | omega | (apply small_n <;> first | assumption | omega) | (exact hg _) | (exact hg _ (by omega)) | (simp_all; done)
 have o2 : w.nm.size ≤ (9223372036854775807 : Nat) := by assumption
 have o3 : ∀ (i : Nat), (w.g i).nm.size ≤ (9223372036854775807 : Nat) := by assumption
 have o4 : (r24.v w == (0 : Int)) = true := by first | assumption | omega | (apply chk0 <;> first | assumption | omega) | (apply chk1 <;> first | assumption | omega) | (exact hg _) | (exact hg _ (by omega)) | (simp_all; done)
 have o5 : r41.v w ≤ (99 : Int) := by first | assumption | omega | (apply top0 <;> first | assumption | omega) | (exact hg _) | (exact hg _ (by omega)) | (simp_all; done)
 have o6 : (-1 : Int) ≤ r41.v w := by first | assumption | omega | (apply top1 <;> first | assumption | omega) | (exact hg _) | (exact hg _ (by omega)) | (simp_all; done)
 have o7 : r20.v w = true := by assumption
 have o8 : nC w ≤ (1000 : Nat) := by first | assumption | omega | (apply nN7 <;> first | assumption | omega) | (exact hg _) | (exact hg _ (by omega)) | (simp_all; done)
 have o9 : ((↑(nC w) : Int) == (↑(r41.v w + (1 : Int)).toNat : Int)) = true := by assumption
 have o10 : (0 : Int) ≤ (↑(nC w) : Int) := by omega
 cases h1 : L7l.run w 0 with
 | e0 =>
  exact Ret.of_run1 mix [(AV.bool (r7aq.v w st))] Try.func7 rfl [.ret (AV.bool r9.v) (r7aq.h0 w c st), .b false, .ret (AV.bool (r20.v w)) (r7aq.h0 w c st), .b false, .b false, .ret (iv (r21.v w)) (r7aq.h0 w c st), .b false, .b false, .b false, .b false, .b false, .b false, .b false, .ret (AV.tup [AV.sl 1 (nC w) fun (j : Nat) => AV.sl 1 ((fun (j : Nat) => List.map SD.nm (cC w j)) j).length fun (q : Nat) => AV.str (((fun (j : Nat) => List.map SD.nm (cC w j)) j).getD q ByteArray.empty), iv 0]) (r7aq.h0 w c st), .ret (AV.sl 1 (r41.v w + 1).toNat fun (j : Nat) => AV.sl 1 ((fun (j : Nat) => List.map SD.nm (corR w.g (↑j : Int) w.n)) j).length fun (q : Nat) => AV.str (((fun (j : Nat) => List.map SD.nm (corR w.g (↑j : Int) w.n)) j).getD q ByteArray.empty)) (r7aq.h0 w c st), .b false, .b false, .b false, .b false, .b false, .b false, .b false, .loop (others 130 [1, 2, 3, 7, 9, 10]) (Exit.ret) (L7l.X w c st L7l.O.e0) (L7l.XH w c st L7l.O.e0)] (by simp) (by simp) (kmp (by kernel_rfl) (Ai (r9 (r7aq.h0 w c st)) (Ai (rfl : false = false) (Ai (r20 (w) o0 (r7aq.h0 w c st)) (Ai (show (bnot (r20.v w)) = false by rw [h20]; try rfl) (Ai (show (bnot (r20.v w)) = false by rw [h20]; try rfl) (Ai (r21 (w) o1 o2 o3 (r7aq.h0 w c st)) (Ai (show (bnot (r20.v w)) = false by rw [h20]; try rfl) (Ai (show (bnot (r20.v w)) = false by rw [h20]; try rfl) (Ai (show (bnot (r21.v w == 0)) = false by rw [hz]; try rfl) (Ai (show (bnot (r21.v w == 0)) = false by rw [hz]; try rfl) (Ai (show (bnot (r21.v w == 0)) = false by rw [hz]; try rfl) (Ai (show (bnot (r21.v w == 0)) = false by rw [hz]; try rfl) (Ai hs (Ai (v26 (w) o1 o2 o3 o4 (r7aq.h0 w c st)) (Ai (r27 (w) o1 o5 o6 (r7aq.h0 w c st)) (Ai (rfl : false = false) (Ai (rfl : false = false) (Ai (rfl : false = false) (Ai (rfl : false = false) (Ai (rfl : false = false) (Ai (rfl : false = false) (Ai (show (bnot ((↑(nC w) : Int) == (↑(r41.v w + 1).toNat : Int))) = false by rw [hl]; try rfl) (Ai (L7l.e0 (w) o7 o8 o9 (c) (st) (0) (Ai (show (0 : Int) ≤ (0 : Int) by decide) o10) h1) (Ai (show (AV.bool false) = ((AV.bool (r7aq.v w st))) by simp only [r7aq.v, h20, hz, hl, h1, cond_true, cond_false]) trivial))))))))))))))))))))))))) h
 | e1 =>
  exact Ret.of_run1 mix [(AV.bool (r7aq.v w st))] Try.func7 rfl [.ret (AV.bool r9.v) (r7aq.h0 w c st), .b false, .ret (AV.bool (r20.v w)) (r7aq.h0 w c st), .b false, .b false, .ret (iv (r21.v w)) (r7aq.h0 w c st), .b false, .b false, .b false, .b false, .b false, .b false, .b false, .ret (AV.tup [AV.sl 1 (nC w) fun (j : Nat) => AV.sl 1 ((fun (j : Nat) => List.map SD.nm (cC w j)) j).length fun (q : Nat) => AV.str (((fun (j : Nat) => List.map SD.nm (cC w j)) j).getD q ByteArray.empty), iv 0]) (r7aq.h0 w c st), .ret (AV.sl 1 (r41.v w + 1).toNat fun (j : Nat) => AV.sl 1 ((fun (j : Nat) => List.map SD.nm (corR w.g (↑j : Int) w.n)) j).length fun (q : Nat) => AV.str (((fun (j : Nat) => List.map SD.nm (corR w.g (↑j : Int) w.n)) j).getD q ByteArray.empty)) (r7aq.h0 w c st), .b false, .b false, .b false, .b false, .b false, .b false, .b false, .loop (others 130 [1, 2, 3, 7, 9, 10]) (Exit.exit 0) (L7l.X w c st L7l.O.e1) (L7l.XH w c st L7l.O.e1), .ret (AV.tup [AV.sl 1 (v29.v0 w c).length fun (a : Nat) => iv ((v29.v0 w c).getD a 0), iv (v29.v1 w c)]) (r7aq.h0 w c st), .b true, .b true, .b true, .b true, .b true, .b true, .b false, .b false, .b false, .b false, .b false, .ret (AV.tup [AV.sl 1 (v25.v0 w st).length fun (a : Nat) => AV.str ((v25.v0 w st).getD a ByteArray.empty), iv (v25.v1 w st)]) (r7aq.h0 w c st), .ret (AV.tup [AV.sl 1 (r31.v0 w st).length fun (a : Nat) => AV.str ((r31.v0 w st).getD a ByteArray.empty), AV.bool (r31.v1 w st)]) (r7aq.h0 w c st), .b false, .b false, .b false, .b false, .b false, .b false, .b false, .b false, .b false, .b false, .b true, .b true, .b false, .b true, .b false, .b true, .b true, .b true, .b false, .b true, .b false] (by simp) (by simp) (kmp (by kernel_rfl) (Ai (r9 (r7aq.h0 w c st)) (Ai (rfl : false = false) (Ai (r20 (w) o0 (r7aq.h0 w c st)) (Ai (show (bnot (r20.v w)) = false by rw [h20]; try rfl) (Ai (show (bnot (r20.v w)) = false by rw [h20]; try rfl) (Ai (r21 (w) o1 o2 o3 (r7aq.h0 w c st)) (Ai (show (bnot (r20.v w)) = false by rw [h20]; try rfl) (Ai (show (bnot (r20.v w)) = false by rw [h20]; try rfl) (Ai (show (bnot (r21.v w == 0)) = false by rw [hz]; try rfl) (Ai (show (bnot (r21.v w == 0)) = false by rw [hz]; try rfl) (Ai (show (bnot (r21.v w == 0)) = false by rw [hz]; try rfl) (Ai (show (bnot (r21.v w == 0)) = false by rw [hz]; try rfl) (Ai hs (Ai (v26 (w) o1 o2 o3 o4 (r7aq.h0 w c st)) (Ai (r27 (w) o1 o5 o6 (r7aq.h0 w c st)) (Ai (rfl : false = false) (Ai (rfl : false = false) (Ai (rfl : false = false) (Ai (rfl : false = false) (Ai (rfl : false = false) (Ai (rfl : false = false) (Ai (show (bnot ((↑(nC w) : Int) == (↑(r41.v w + 1).toNat : Int))) = false by rw [hl]; try rfl) (Ai (L7l.e1 (w) o7 o8 o9 (c) (st) (0) (Ai (show (0 : Int) ≤ (0 : Int) by decide) o10) h1) (Ai (v29 (w) o1 o2 o3 o4 (c) (r7aq.h0 w c st)) (Ai c1 (Ai c1 (Ai c1 (Ai c1 (Ai c1 (Ai (rfl : true = true) (Ai (show (bnot (v29.v1 w c == 3)) = false by rw [c2]; try rfl) (Ai (show (bnot (v29.v1 w c == 3)) = false by rw [c2]; try rfl) (Ai (show (bnot (v29.v1 w c == 3)) = false by rw [c2]; try rfl) (Ai (show (bnot (v29.v1 w c == 3)) = false by rw [c2]; try rfl) (Ai (show (bnot ((↑(v29.v0 w c).length : Int) == 0)) = false by rw [c5]; try rfl) (Ai (v25 (w) o1 o2 o3 o4 (st) (r7aq.h0 w c st)) (Ai (r31 (w) o1 (st) (r7aq.h0 w c st)) (Ai q1 (Ai q1 (Ai q1 (Ai (rfl : false = false) (Ai (rfl : false = false) (Ai (rfl : false = false) (Ai (rfl : false = false) (Ai (rfl : false = false) (Ai (rfl : false = false) (Ai (rfl : false = false) (Ai (show (bnot (r31.v1 w st)) = true by rw [q1]; try rfl) (Ai (show (bnot (r31.v1 w st)) = true by rw [q1]; try rfl) (Ai (rfl : false = false) (Ai (show (bnot (r31.v1 w st)) = true by rw [q1]; try rfl) (Ai (rfl : false = false) (Ai q2 (Ai q2 (Ai q2 (Ai (rfl : false = false) (Ai q2 (Ai (rfl : false = false) (Ai (show (AV.bool ((↑(v25.v0 w st).length : Int) == 0)) = ((AV.bool (r7aq.v w st))) by simp only [r7aq.v, h20, hz, hl, c2, c5, q1, h1, cond_true, cond_false]) trivial)))))))))))))))))))))))))))))))))))))))))))))))))))))))))))) h
noncomputable def r7bp.v (w : WD) : Bool := (match L7l.run w 0 with | .e0 => false | .e1 => true )
noncomputable abbrev r7bp.h0 (w : WD) (c : Int) (st : ByteArray) : AHeap := ([AObj.var (WD.av w)])
theorem r7bp (w : WD) (hw : w.n ≤ 9223372036854775807) (hnm : w.nm.size ≤ 9223372036854775807) (hg : ∀ (i : Nat), (w.g i).nm.size ≤ 9223372036854775807) (c : Int) (st : ByteArray) (hst : st.size ≤ 9223372036854775807) (h20 : r20.v w = true) (hz : (r21.v w == 0) = true) (hs : decide ((↑st.size : Int) > 100) = false) (hl : ((↑(nC w) : Int) == (↑(r41.v w + 1).toNat : Int)) = true) (c1 : decide (c < 0) = false) (c3 : decide (c ≥ (↑(r41.v w + 1).toNat : Int)) = true) (c2 : (v29.v1 w c == 3) = true) (c5 : ((↑(v29.v0 w c).length : Int) == 0) = true) (q1 : r31.v1 w st = true) (q2 : (v25.v1 w st == 0) = true) (q3 : (r28.v (v25.v0 w st).length (fun (i : Nat) => (v25.v0 w st).getD i ByteArray.empty) (r31.v0 w st).length fun (i : Nat) => (r31.v0 w st).getD i ByteArray.empty) = true) (h : AHeap) : Ret Try.prog 7 ([w.av, iv c, AV.str st]) h (AV.bool (r7bp.v w)) h := by
 have o0 : w.n ≤ (9223372036854775807 : Nat) := by assumption
 have o1 : w.n ≤ (10000 : Nat) := by first | assumption | omega | (apply small_n <;> first | assumption | omega) | (exact hg _) | (exact hg _ (by omega)) | (simp_all; done)
 have o2 : w.nm.size ≤ (9223372036854775807 : Nat) := by assumption
 have o3 : ∀ (i : Nat), (w.g i).nm.size ≤ (9223372036854775807 : Nat) := by assumption
 have o4 : (r24.v w == (0 : Int)) = true := by first | assumption | omega | (apply chk0 <;> first | assumption | omega) | (apply chk1 <;> first | assumption | omega) | (exact hg _) | (exact hg _ (by omega)) | (simp_all; done)
 have o5 : r41.v w ≤ (99 : Int) := by first | assumption | omega | (apply top0 <;> first | assumption | omega) | (exact hg _) | (exact hg _ (by omega)) | (simp_all; done)
 have o6 : (-1 : Int) ≤ r41.v w := by first | assumption | omega | (apply top1 <;> first | assumption | omega) | (exact hg _) | (exact hg _ (by omega)) | (simp_all; done)
 have o7 : r20.v w = true := by assumption
 have o8 : nC w ≤ (1000 : Nat) := by first | assumption | omega | (apply nN7 <;> first | assumption | omega) | (exact hg _) | (exact hg _ (by omega)) | (simp_all; done)
 have o9 : ((↑(nC w) : Int) == (↑(r41.v w + (1 : Int)).toNat : Int)) = true := by assumption
 have o10 : (0 : Int) ≤ (↑(nC w) : Int) := by omega
 cases h1 : L7l.run w 0 with
 | e0 =>
  exact Ret.of_run1 mix [(AV.bool (r7bp.v w))] Try.func7 rfl [.ret (AV.bool r9.v) (r7bp.h0 w c st), .b false, .ret (AV.bool (r20.v w)) (r7bp.h0 w c st), .b false, .b false, .ret (iv (r21.v w)) (r7bp.h0 w c st), .b false, .b false, .b false, .b false, .b false, .b false, .b false, .ret (AV.tup [AV.sl 1 (nC w) fun (j : Nat) => AV.sl 1 ((fun (j : Nat) => List.map SD.nm (cC w j)) j).length fun (q : Nat) => AV.str (((fun (j : Nat) => List.map SD.nm (cC w j)) j).getD q ByteArray.empty), iv 0]) (r7bp.h0 w c st), .ret (AV.sl 1 (r41.v w + 1).toNat fun (j : Nat) => AV.sl 1 ((fun (j : Nat) => List.map SD.nm (corR w.g (↑j : Int) w.n)) j).length fun (q : Nat) => AV.str (((fun (j : Nat) => List.map SD.nm (corR w.g (↑j : Int) w.n)) j).getD q ByteArray.empty)) (r7bp.h0 w c st), .b false, .b false, .b false, .b false, .b false, .b false, .b false, .loop (others 130 [1, 2, 3, 7, 9, 10]) (Exit.ret) (L7l.X w c st L7l.O.e0) (L7l.XH w c st L7l.O.e0)] (by simp) (by simp) (kmp (by kernel_rfl) (Ai (r9 (r7bp.h0 w c st)) (Ai (rfl : false = false) (Ai (r20 (w) o0 (r7bp.h0 w c st)) (Ai (show (bnot (r20.v w)) = false by rw [h20]; try rfl) (Ai (show (bnot (r20.v w)) = false by rw [h20]; try rfl) (Ai (r21 (w) o1 o2 o3 (r7bp.h0 w c st)) (Ai (show (bnot (r20.v w)) = false by rw [h20]; try rfl) (Ai (show (bnot (r20.v w)) = false by rw [h20]; try rfl) (Ai (show (bnot (r21.v w == 0)) = false by rw [hz]; try rfl) (Ai (show (bnot (r21.v w == 0)) = false by rw [hz]; try rfl) (Ai (show (bnot (r21.v w == 0)) = false by rw [hz]; try rfl) (Ai (show (bnot (r21.v w == 0)) = false by rw [hz]; try rfl) (Ai hs (Ai (v26 (w) o1 o2 o3 o4 (r7bp.h0 w c st)) (Ai (r27 (w) o1 o5 o6 (r7bp.h0 w c st)) (Ai (rfl : false = false) (Ai (rfl : false = false) (Ai (rfl : false = false) (Ai (rfl : false = false) (Ai (rfl : false = false) (Ai (rfl : false = false) (Ai (show (bnot ((↑(nC w) : Int) == (↑(r41.v w + 1).toNat : Int))) = false by rw [hl]; try rfl) (Ai (L7l.e0 (w) o7 o8 o9 (c) (st) (0) (Ai (show (0 : Int) ≤ (0 : Int) by decide) o10) h1) (Ai (show (AV.bool false) = ((AV.bool (r7bp.v w))) by simp only [r7bp.v, h20, hz, hl, h1, cond_true, cond_false]) trivial))))))))))))))))))))))))) h
 | e1 =>
  have o11 : (v25.v0 w st).length ≤ (1000000 : Nat) := by first | assumption | omega | (simp only [List.length_append, List.length_cons, List.length_nil, List.length_map]; omega) | (apply len_25 <;> first | assumption | omega) | (exact hg _) | (exact hg _ (by omega)) | (simp_all; done)
  have o12 : (r31.v0 w st).length ≤ (1000000 : Nat) := by first | assumption | omega | (simp only [List.length_append, List.length_cons, List.length_nil, List.length_map]; omega) | (apply len_31 <;> first | assumption | omega) | (exact hg _) | (exact hg _ (by omega)) | (simp_all; done)
  exact Ret.of_run1 mix [(AV.bool (r7bp.v w))] Try.func7 rfl [.ret (AV.bool r9.v) (r7bp.h0 w c st), .b false, .ret (AV.bool (r20.v w)) (r7bp.h0 w c st), .b false, .b false, .ret (iv (r21.v w)) (r7bp.h0 w c st), .b false, .b false, .b false, .b false, .b false, .b false, .b false, .ret (AV.tup [AV.sl 1 (nC w) fun (j : Nat) => AV.sl 1 ((fun (j : Nat) => List.map SD.nm (cC w j)) j).length fun (q : Nat) => AV.str (((fun (j : Nat) => List.map SD.nm (cC w j)) j).getD q ByteArray.empty), iv 0]) (r7bp.h0 w c st), .ret (AV.sl 1 (r41.v w + 1).toNat fun (j : Nat) => AV.sl 1 ((fun (j : Nat) => List.map SD.nm (corR w.g (↑j : Int) w.n)) j).length fun (q : Nat) => AV.str (((fun (j : Nat) => List.map SD.nm (corR w.g (↑j : Int) w.n)) j).getD q ByteArray.empty)) (r7bp.h0 w c st), .b false, .b false, .b false, .b false, .b false, .b false, .b false, .loop (others 130 [1, 2, 3, 7, 9, 10]) (Exit.exit 0) (L7l.X w c st L7l.O.e1) (L7l.XH w c st L7l.O.e1), .ret (AV.tup [AV.sl 1 (v29.v0 w c).length fun (a : Nat) => iv ((v29.v0 w c).getD a 0), iv (v29.v1 w c)]) (r7bp.h0 w c st), .b false, .b false, .b false, .b false, .b false, .b true, .b false, .b false, .b false, .b false, .b false, .ret (AV.tup [AV.sl 1 (v25.v0 w st).length fun (a : Nat) => AV.str ((v25.v0 w st).getD a ByteArray.empty), iv (v25.v1 w st)]) (r7bp.h0 w c st), .ret (AV.tup [AV.sl 1 (r31.v0 w st).length fun (a : Nat) => AV.str ((r31.v0 w st).getD a ByteArray.empty), AV.bool (r31.v1 w st)]) (r7bp.h0 w c st), .b true, .b true, .b true, .b true, .b true, .b true, .ret (AV.bool (r28.v (v25.v0 w st).length (fun (i : Nat) => (v25.v0 w st).getD i ByteArray.empty) (r31.v0 w st).length fun (i : Nat) => (r31.v0 w st).getD i ByteArray.empty)) (r7bp.h0 w c st), .b true, .b true, .b true, .b true, .b true, .b true, .b true, .b true] (by simp) (by simp) (kmp (by kernel_rfl) (Ai (r9 (r7bp.h0 w c st)) (Ai (rfl : false = false) (Ai (r20 (w) o0 (r7bp.h0 w c st)) (Ai (show (bnot (r20.v w)) = false by rw [h20]; try rfl) (Ai (show (bnot (r20.v w)) = false by rw [h20]; try rfl) (Ai (r21 (w) o1 o2 o3 (r7bp.h0 w c st)) (Ai (show (bnot (r20.v w)) = false by rw [h20]; try rfl) (Ai (show (bnot (r20.v w)) = false by rw [h20]; try rfl) (Ai (show (bnot (r21.v w == 0)) = false by rw [hz]; try rfl) (Ai (show (bnot (r21.v w == 0)) = false by rw [hz]; try rfl) (Ai (show (bnot (r21.v w == 0)) = false by rw [hz]; try rfl) (Ai (show (bnot (r21.v w == 0)) = false by rw [hz]; try rfl) (Ai hs (Ai (v26 (w) o1 o2 o3 o4 (r7bp.h0 w c st)) (Ai (r27 (w) o1 o5 o6 (r7bp.h0 w c st)) (Ai (rfl : false = false) (Ai (rfl : false = false) (Ai (rfl : false = false) (Ai (rfl : false = false) (Ai (rfl : false = false) (Ai (rfl : false = false) (Ai (show (bnot ((↑(nC w) : Int) == (↑(r41.v w + 1).toNat : Int))) = false by rw [hl]; try rfl) (Ai (L7l.e1 (w) o7 o8 o9 (c) (st) (0) (Ai (show (0 : Int) ≤ (0 : Int) by decide) o10) h1) (Ai (v29 (w) o1 o2 o3 o4 (c) (r7bp.h0 w c st)) (Ai c1 (Ai c1 (Ai c1 (Ai c1 (Ai c1 (Ai c3 (Ai (show (bnot (v29.v1 w c == 3)) = false by rw [c2]; try rfl) (Ai (show (bnot (v29.v1 w c == 3)) = false by rw [c2]; try rfl) (Ai (show (bnot (v29.v1 w c == 3)) = false by rw [c2]; try rfl) (Ai (show (bnot (v29.v1 w c == 3)) = false by rw [c2]; try rfl) (Ai (show (bnot ((↑(v29.v0 w c).length : Int) == 0)) = false by rw [c5]; try rfl) (Ai (v25 (w) o1 o2 o3 o4 (st) (r7bp.h0 w c st)) (Ai (r31 (w) o1 (st) (r7bp.h0 w c st)) (Ai q1 (Ai q1 (Ai q1 (Ai q2 (Ai q2 (Ai q2 (Ai (r28 ((v25.v0 w st).length) (fun (i : Nat) => (v25.v0 w st).getD i ByteArray.empty) o11 ((r31.v0 w st).length) (fun (i : Nat) => (r31.v0 w st).getD i ByteArray.empty) o12 (r7bp.h0 w c st)) (Ai q2 (Ai q3 (Ai q3 (Ai q3 (Ai q3 (Ai q3 (Ai q3 (Ai q3 (Ai (show (AV.bool true) = ((AV.bool (r7bp.v w))) by simp only [r7bp.v, h20, hz, hl, c2, c5, h1, cond_true, cond_false]) trivial)))))))))))))))))))))))))))))))))))))))))))))))))))))) h
noncomputable def r7bq.v (w : WD) (st : ByteArray) : Bool := (match L7l.run w 0 with | .e0 => false | .e1 => (↑(v25.v0 w st).length : Int) == 0 )
noncomputable abbrev r7bq.h0 (w : WD) (c : Int) (st : ByteArray) : AHeap := ([AObj.var (WD.av w)])
theorem r7bq (w : WD) (hw : w.n ≤ 9223372036854775807) (hnm : w.nm.size ≤ 9223372036854775807) (hg : ∀ (i : Nat), (w.g i).nm.size ≤ 9223372036854775807) (c : Int) (st : ByteArray) (hst : st.size ≤ 9223372036854775807) (h20 : r20.v w = true) (hz : (r21.v w == 0) = true) (hs : decide ((↑st.size : Int) > 100) = false) (hl : ((↑(nC w) : Int) == (↑(r41.v w + 1).toNat : Int)) = true) (c1 : decide (c < 0) = false) (c3 : decide (c ≥ (↑(r41.v w + 1).toNat : Int)) = true) (c2 : (v29.v1 w c == 3) = true) (c5 : ((↑(v29.v0 w c).length : Int) == 0) = true) (q1 : r31.v1 w st = false) (q2 : (v25.v1 w st == 3) = true) (h : AHeap) : Ret Try.prog 7 ([w.av, iv c, AV.str st]) h (AV.bool (r7bq.v w st)) h := by
 have o0 : w.n ≤ (9223372036854775807 : Nat) := by assumption
 have o1 : w.n ≤ (10000 : Nat) := by first | assumption | omega | (apply small_n <;> first | assumption | omega) | (exact hg _) | (exact hg _ (by omega)) | (simp_all; done)
 have o2 : w.nm.size ≤ (9223372036854775807 : Nat) := by assumption
 have o3 : ∀ (i : Nat), (w.g i).nm.size ≤ (9223372036854775807 : Nat) := by assumption
 have o4 : (r24.v w == (0 : Int)) = true := by first | assumption | omega | (apply chk0 <;> first | assumption | omega) | (apply chk1 <;> first | assumption | omega) | (exact hg _) | (exact hg _ (by omega)) | (simp_all; done)
 have o5 : r41.v w ≤ (99 : Int) := by first | assumption | omega | (apply top0 <;> first | assumption | omega) | (exact hg _) | (exact hg _ (by omega)) | (simp_all; done)
 have o6 : (-1 : Int) ≤ r41.v w := by first | assumption | omega | (apply top1 <;> first | assumption | omega) | (exact hg _) | (exact hg _ (by omega)) | (simp_all; done)
 have o7 : r20.v w = true := by assumption
 have o8 : nC w ≤ (1000 : Nat) := by first | assumption | omega | (apply nN7 <;> first | assumption | omega) | (exact hg _) | (exact hg _ (by omega)) | (simp_all; done)
 have o9 : ((↑(nC w) : Int) == (↑(r41.v w + (1 : Int)).toNat : Int)) = true := by assumption
 have o10 : (0 : Int) ≤ (↑(nC w) : Int) := by omega
 cases h1 : L7l.run w 0 with
 | e0 =>
  exact Ret.of_run1 mix [(AV.bool (r7bq.v w st))] Try.func7 rfl [.ret (AV.bool r9.v) (r7bq.h0 w c st), .b false, .ret (AV.bool (r20.v w)) (r7bq.h0 w c st), .b false, .b false, .ret (iv (r21.v w)) (r7bq.h0 w c st), .b false, .b false, .b false, .b false, .b false, .b false, .b false, .ret (AV.tup [AV.sl 1 (nC w) fun (j : Nat) => AV.sl 1 ((fun (j : Nat) => List.map SD.nm (cC w j)) j).length fun (q : Nat) => AV.str (((fun (j : Nat) => List.map SD.nm (cC w j)) j).getD q ByteArray.empty), iv 0]) (r7bq.h0 w c st), .ret (AV.sl 1 (r41.v w + 1).toNat fun (j : Nat) => AV.sl 1 ((fun (j : Nat) => List.map SD.nm (corR w.g (↑j : Int) w.n)) j).length fun (q : Nat) => AV.str (((fun (j : Nat) => List.map SD.nm (corR w.g (↑j : Int) w.n)) j).getD q ByteArray.empty)) (r7bq.h0 w c st), .b false, .b false, .b false, .b false, .b false, .b false, .b false, .loop (others 130 [1, 2, 3, 7, 9, 10]) (Exit.ret) (L7l.X w c st L7l.O.e0) (L7l.XH w c st L7l.O.e0)] (by simp) (by simp) (kmp (by kernel_rfl) (Ai (r9 (r7bq.h0 w c st)) (Ai (rfl : false = false) (Ai (r20 (w) o0 (r7bq.h0 w c st)) (Ai (show (bnot (r20.v w)) = false by rw [h20]; try rfl) (Ai (show (bnot (r20.v w)) = false by rw [h20]; try rfl) (Ai (r21 (w) o1 o2 o3 (r7bq.h0 w c st)) (Ai (show (bnot (r20.v w)) = false by rw [h20]; try rfl) (Ai (show (bnot (r20.v w)) = false by rw [h20]; try rfl) (Ai (show (bnot (r21.v w == 0)) = false by rw [hz]; try rfl) (Ai (show (bnot (r21.v w == 0)) = false by rw [hz]; try rfl) (Ai (show (bnot (r21.v w == 0)) = false by rw [hz]; try rfl) (Ai (show (bnot (r21.v w == 0)) = false by rw [hz]; try rfl) (Ai hs (Ai (v26 (w) o1 o2 o3 o4 (r7bq.h0 w c st)) (Ai (r27 (w) o1 o5 o6 (r7bq.h0 w c st)) (Ai (rfl : false = false) (Ai (rfl : false = false) (Ai (rfl : false = false) (Ai (rfl : false = false) (Ai (rfl : false = false) (Ai (rfl : false = false) (Ai (show (bnot ((↑(nC w) : Int) == (↑(r41.v w + 1).toNat : Int))) = false by rw [hl]; try rfl) (Ai (L7l.e0 (w) o7 o8 o9 (c) (st) (0) (Ai (show (0 : Int) ≤ (0 : Int) by decide) o10) h1) (Ai (show (AV.bool false) = ((AV.bool (r7bq.v w st))) by simp only [r7bq.v, h20, hz, hl, h1, cond_true, cond_false]) trivial))))))))))))))))))))))))) h
 | e1 =>
  exact Ret.of_run1 mix [(AV.bool (r7bq.v w st))] Try.func7 rfl [.ret (AV.bool r9.v) (r7bq.h0 w c st), .b false, .ret (AV.bool (r20.v w)) (r7bq.h0 w c st), .b false, .b false, .ret (iv (r21.v w)) (r7bq.h0 w c st), .b false, .b false, .b false, .b false, .b false, .b false, .b false, .ret (AV.tup [AV.sl 1 (nC w) fun (j : Nat) => AV.sl 1 ((fun (j : Nat) => List.map SD.nm (cC w j)) j).length fun (q : Nat) => AV.str (((fun (j : Nat) => List.map SD.nm (cC w j)) j).getD q ByteArray.empty), iv 0]) (r7bq.h0 w c st), .ret (AV.sl 1 (r41.v w + 1).toNat fun (j : Nat) => AV.sl 1 ((fun (j : Nat) => List.map SD.nm (corR w.g (↑j : Int) w.n)) j).length fun (q : Nat) => AV.str (((fun (j : Nat) => List.map SD.nm (corR w.g (↑j : Int) w.n)) j).getD q ByteArray.empty)) (r7bq.h0 w c st), .b false, .b false, .b false, .b false, .b false, .b false, .b false, .loop (others 130 [1, 2, 3, 7, 9, 10]) (Exit.exit 0) (L7l.X w c st L7l.O.e1) (L7l.XH w c st L7l.O.e1), .ret (AV.tup [AV.sl 1 (v29.v0 w c).length fun (a : Nat) => iv ((v29.v0 w c).getD a 0), iv (v29.v1 w c)]) (r7bq.h0 w c st), .b false, .b false, .b false, .b false, .b false, .b true, .b false, .b false, .b false, .b false, .b false, .ret (AV.tup [AV.sl 1 (v25.v0 w st).length fun (a : Nat) => AV.str ((v25.v0 w st).getD a ByteArray.empty), iv (v25.v1 w st)]) (r7bq.h0 w c st), .ret (AV.tup [AV.sl 1 (r31.v0 w st).length fun (a : Nat) => AV.str ((r31.v0 w st).getD a ByteArray.empty), AV.bool (r31.v1 w st)]) (r7bq.h0 w c st), .b false, .b false, .b false, .b false, .b false, .b false, .b false, .b false, .b false, .b false, .b true, .b true, .b false, .b true, .b false, .b true, .b true, .b true, .b false, .b true, .b false] (by simp) (by simp) (kmp (by kernel_rfl) (Ai (r9 (r7bq.h0 w c st)) (Ai (rfl : false = false) (Ai (r20 (w) o0 (r7bq.h0 w c st)) (Ai (show (bnot (r20.v w)) = false by rw [h20]; try rfl) (Ai (show (bnot (r20.v w)) = false by rw [h20]; try rfl) (Ai (r21 (w) o1 o2 o3 (r7bq.h0 w c st)) (Ai (show (bnot (r20.v w)) = false by rw [h20]; try rfl) (Ai (show (bnot (r20.v w)) = false by rw [h20]; try rfl) (Ai (show (bnot (r21.v w == 0)) = false by rw [hz]; try rfl) (Ai (show (bnot (r21.v w == 0)) = false by rw [hz]; try rfl) (Ai (show (bnot (r21.v w == 0)) = false by rw [hz]; try rfl) (Ai (show (bnot (r21.v w == 0)) = false by rw [hz]; try rfl) (Ai hs (Ai (v26 (w) o1 o2 o3 o4 (r7bq.h0 w c st)) (Ai (r27 (w) o1 o5 o6 (r7bq.h0 w c st)) (Ai (rfl : false = false) (Ai (rfl : false = false) (Ai (rfl : false = false) (Ai (rfl : false = false) (Ai (rfl : false = false) (Ai (rfl : false = false) (Ai (show (bnot ((↑(nC w) : Int) == (↑(r41.v w + 1).toNat : Int))) = false by rw [hl]; try rfl) (Ai (L7l.e1 (w) o7 o8 o9 (c) (st) (0) (Ai (show (0 : Int) ≤ (0 : Int) by decide) o10) h1) (Ai (v29 (w) o1 o2 o3 o4 (c) (r7bq.h0 w c st)) (Ai c1 (Ai c1 (Ai c1 (Ai c1 (Ai c1 (Ai c3 (Ai (show (bnot (v29.v1 w c == 3)) = false by rw [c2]; try rfl) (Ai (show (bnot (v29.v1 w c == 3)) = false by rw [c2]; try rfl) (Ai (show (bnot (v29.v1 w c == 3)) = false by rw [c2]; try rfl) (Ai (show (bnot (v29.v1 w c == 3)) = false by rw [c2]; try rfl) (Ai (show (bnot ((↑(v29.v0 w c).length : Int) == 0)) = false by rw [c5]; try rfl) (Ai (v25 (w) o1 o2 o3 o4 (st) (r7bq.h0 w c st)) (Ai (r31 (w) o1 (st) (r7bq.h0 w c st)) (Ai q1 (Ai q1 (Ai q1 (Ai (rfl : false = false) (Ai (rfl : false = false) (Ai (rfl : false = false) (Ai (rfl : false = false) (Ai (rfl : false = false) (Ai (rfl : false = false) (Ai (rfl : false = false) (Ai (show (bnot (r31.v1 w st)) = true by rw [q1]; try rfl) (Ai (show (bnot (r31.v1 w st)) = true by rw [q1]; try rfl) (Ai (rfl : false = false) (Ai (show (bnot (r31.v1 w st)) = true by rw [q1]; try rfl) (Ai (rfl : false = false) (Ai q2 (Ai q2 (Ai q2 (Ai (rfl : false = false) (Ai q2 (Ai (rfl : false = false) (Ai (show (AV.bool ((↑(v25.v0 w st).length : Int) == 0)) = ((AV.bool (r7bq.v w st))) by simp only [r7bq.v, h20, hz, hl, c2, c5, q1, h1, cond_true, cond_false]) trivial)))))))))))))))))))))))))))))))))))))))))))))))))))))))))))) h
noncomputable def r7cp.v (w : WD) : Bool := (match L7l.run w 0 with | .e0 => false | .e1 => true )
noncomputable abbrev r7cp.h0 (w : WD) (c : Int) (st : ByteArray) : AHeap := ([AObj.var (WD.av w)])
theorem r7cp (w : WD) (hw : w.n ≤ 9223372036854775807) (hnm : w.nm.size ≤ 9223372036854775807) (hg : ∀ (i : Nat), (w.g i).nm.size ≤ 9223372036854775807) (c : Int) (st : ByteArray) (hst : st.size ≤ 9223372036854775807) (h20 : r20.v w = true) (hz : (r21.v w == 0) = true) (hs : decide ((↑st.size : Int) > 100) = false) (hl : ((↑(nC w) : Int) == (↑(r41.v w + 1).toNat : Int)) = true) (c1 : decide (c < 0) = false) (c3 : decide (c ≥ (↑(r41.v w + 1).toNat : Int)) = false) (c2 : (v29.v1 w c == 0) = true) (c4 : (r17.v (v29.v0 w c).length (fun (i : Nat) => (v29.v0 w c).getD i 0) (r30.v w c).length fun (i : Nat) => (r30.v w c).getD i 0) = true) (q1 : r31.v1 w st = true) (q2 : (v25.v1 w st == 0) = true) (q3 : (r28.v (v25.v0 w st).length (fun (i : Nat) => (v25.v0 w st).getD i ByteArray.empty) (r31.v0 w st).length fun (i : Nat) => (r31.v0 w st).getD i ByteArray.empty) = true) (h : AHeap) : Ret Try.prog 7 ([w.av, iv c, AV.str st]) h (AV.bool (r7cp.v w)) h := by
 have o0 : w.n ≤ (9223372036854775807 : Nat) := by assumption
 have o1 : w.n ≤ (10000 : Nat) := by first | assumption | omega | (apply small_n <;> first | assumption | omega) | (exact hg _) | (exact hg _ (by omega)) | (simp_all; done)
 have o2 : w.nm.size ≤ (9223372036854775807 : Nat) := by assumption
 have o3 : ∀ (i : Nat), (w.g i).nm.size ≤ (9223372036854775807 : Nat) := by assumption
 have o4 : (r24.v w == (0 : Int)) = true := by first | assumption | omega | (apply chk0 <;> first | assumption | omega) | (apply chk1 <;> first | assumption | omega) | (exact hg _) | (exact hg _ (by omega)) | (simp_all; done)
 have o5 : r41.v w ≤ (99 : Int) := by first | assumption | omega | (apply top0 <;> first | assumption | omega) | (exact hg _) | (exact hg _ (by omega)) | (simp_all; done)
 have o6 : (-1 : Int) ≤ r41.v w := by first | assumption | omega | (apply top1 <;> first | assumption | omega) | (exact hg _) | (exact hg _ (by omega)) | (simp_all; done)
 have o7 : r20.v w = true := by assumption
 have o8 : nC w ≤ (1000 : Nat) := by first | assumption | omega | (apply nN7 <;> first | assumption | omega) | (exact hg _) | (exact hg _ (by omega)) | (simp_all; done)
 have o9 : ((↑(nC w) : Int) == (↑(r41.v w + (1 : Int)).toNat : Int)) = true := by assumption
 have o10 : (0 : Int) ≤ (↑(nC w) : Int) := by omega
 cases h1 : L7l.run w 0 with
 | e0 =>
  exact Ret.of_run1 mix [(AV.bool (r7cp.v w))] Try.func7 rfl [.ret (AV.bool r9.v) (r7cp.h0 w c st), .b false, .ret (AV.bool (r20.v w)) (r7cp.h0 w c st), .b false, .b false, .ret (iv (r21.v w)) (r7cp.h0 w c st), .b false, .b false, .b false, .b false, .b false, .b false, .b false, .ret (AV.tup [AV.sl 1 (nC w) fun (j : Nat) => AV.sl 1 ((fun (j : Nat) => List.map SD.nm (cC w j)) j).length fun (q : Nat) => AV.str (((fun (j : Nat) => List.map SD.nm (cC w j)) j).getD q ByteArray.empty), iv 0]) (r7cp.h0 w c st), .ret (AV.sl 1 (r41.v w + 1).toNat fun (j : Nat) => AV.sl 1 ((fun (j : Nat) => List.map SD.nm (corR w.g (↑j : Int) w.n)) j).length fun (q : Nat) => AV.str (((fun (j : Nat) => List.map SD.nm (corR w.g (↑j : Int) w.n)) j).getD q ByteArray.empty)) (r7cp.h0 w c st), .b false, .b false, .b false, .b false, .b false, .b false, .b false, .loop (others 130 [1, 2, 3, 7, 9, 10]) (Exit.ret) (L7l.X w c st L7l.O.e0) (L7l.XH w c st L7l.O.e0)] (by simp) (by simp) (kmp (by kernel_rfl) (Ai (r9 (r7cp.h0 w c st)) (Ai (rfl : false = false) (Ai (r20 (w) o0 (r7cp.h0 w c st)) (Ai (show (bnot (r20.v w)) = false by rw [h20]; try rfl) (Ai (show (bnot (r20.v w)) = false by rw [h20]; try rfl) (Ai (r21 (w) o1 o2 o3 (r7cp.h0 w c st)) (Ai (show (bnot (r20.v w)) = false by rw [h20]; try rfl) (Ai (show (bnot (r20.v w)) = false by rw [h20]; try rfl) (Ai (show (bnot (r21.v w == 0)) = false by rw [hz]; try rfl) (Ai (show (bnot (r21.v w == 0)) = false by rw [hz]; try rfl) (Ai (show (bnot (r21.v w == 0)) = false by rw [hz]; try rfl) (Ai (show (bnot (r21.v w == 0)) = false by rw [hz]; try rfl) (Ai hs (Ai (v26 (w) o1 o2 o3 o4 (r7cp.h0 w c st)) (Ai (r27 (w) o1 o5 o6 (r7cp.h0 w c st)) (Ai (rfl : false = false) (Ai (rfl : false = false) (Ai (rfl : false = false) (Ai (rfl : false = false) (Ai (rfl : false = false) (Ai (rfl : false = false) (Ai (show (bnot ((↑(nC w) : Int) == (↑(r41.v w + 1).toNat : Int))) = false by rw [hl]; try rfl) (Ai (L7l.e0 (w) o7 o8 o9 (c) (st) (0) (Ai (show (0 : Int) ≤ (0 : Int) by decide) o10) h1) (Ai (show (AV.bool false) = ((AV.bool (r7cp.v w))) by simp only [r7cp.v, h20, hz, hl, h1, cond_true, cond_false]) trivial))))))))))))))))))))))))) h
 | e1 =>
  have o11 : (v29.v0 w c).length ≤ (9223372036854775807 : Nat) := by first | assumption | omega | (simp only [List.length_append, List.length_cons, List.length_nil, List.length_map]; omega) | (apply len_29 <;> first | assumption | omega) | (exact hg _) | (exact hg _ (by omega)) | (simp_all; done)
  have o12 : (r30.v w c).length ≤ (9223372036854775807 : Nat) := by first | assumption | omega | (simp only [List.length_append, List.length_cons, List.length_nil, List.length_map]; omega) | (apply len_30 <;> first | assumption | omega) | (exact hg _) | (exact hg _ (by omega)) | (simp_all; done)
  have o13 : (v25.v0 w st).length ≤ (1000000 : Nat) := by first | assumption | omega | (simp only [List.length_append, List.length_cons, List.length_nil, List.length_map]; omega) | (apply len_25 <;> first | assumption | omega) | (exact hg _) | (exact hg _ (by omega)) | (simp_all; done)
  have o14 : (r31.v0 w st).length ≤ (1000000 : Nat) := by first | assumption | omega | (simp only [List.length_append, List.length_cons, List.length_nil, List.length_map]; omega) | (apply len_31 <;> first | assumption | omega) | (exact hg _) | (exact hg _ (by omega)) | (simp_all; done)
  exact Ret.of_run1 mix [(AV.bool (r7cp.v w))] Try.func7 rfl [.ret (AV.bool r9.v) (r7cp.h0 w c st), .b false, .ret (AV.bool (r20.v w)) (r7cp.h0 w c st), .b false, .b false, .ret (iv (r21.v w)) (r7cp.h0 w c st), .b false, .b false, .b false, .b false, .b false, .b false, .b false, .ret (AV.tup [AV.sl 1 (nC w) fun (j : Nat) => AV.sl 1 ((fun (j : Nat) => List.map SD.nm (cC w j)) j).length fun (q : Nat) => AV.str (((fun (j : Nat) => List.map SD.nm (cC w j)) j).getD q ByteArray.empty), iv 0]) (r7cp.h0 w c st), .ret (AV.sl 1 (r41.v w + 1).toNat fun (j : Nat) => AV.sl 1 ((fun (j : Nat) => List.map SD.nm (corR w.g (↑j : Int) w.n)) j).length fun (q : Nat) => AV.str (((fun (j : Nat) => List.map SD.nm (corR w.g (↑j : Int) w.n)) j).getD q ByteArray.empty)) (r7cp.h0 w c st), .b false, .b false, .b false, .b false, .b false, .b false, .b false, .loop (others 130 [1, 2, 3, 7, 9, 10]) (Exit.exit 0) (L7l.X w c st L7l.O.e1) (L7l.XH w c st L7l.O.e1), .ret (AV.tup [AV.sl 1 (v29.v0 w c).length fun (a : Nat) => iv ((v29.v0 w c).getD a 0), iv (v29.v1 w c)]) (r7cp.h0 w c st), .b false, .b false, .b false, .b false, .b false, .b false, .b false, .b false, .b false, .b false, .ret (AV.sl 1 (r30.v w c).length fun (a : Nat) => iv ((r30.v w c).getD a 0)) (r7cp.h0 w c st), .b false, .ret (AV.bool (r17.v (v29.v0 w c).length (fun (i : Nat) => (v29.v0 w c).getD i 0) (r30.v w c).length fun (i : Nat) => (r30.v w c).getD i 0)) (r7cp.h0 w c st), .b false, .b false, .b false, .ret (AV.tup [AV.sl 1 (v25.v0 w st).length fun (a : Nat) => AV.str ((v25.v0 w st).getD a ByteArray.empty), iv (v25.v1 w st)]) (r7cp.h0 w c st), .ret (AV.tup [AV.sl 1 (r31.v0 w st).length fun (a : Nat) => AV.str ((r31.v0 w st).getD a ByteArray.empty), AV.bool (r31.v1 w st)]) (r7cp.h0 w c st), .b true, .b true, .b true, .b true, .b true, .b true, .ret (AV.bool (r28.v (v25.v0 w st).length (fun (i : Nat) => (v25.v0 w st).getD i ByteArray.empty) (r31.v0 w st).length fun (i : Nat) => (r31.v0 w st).getD i ByteArray.empty)) (r7cp.h0 w c st), .b true, .b true, .b true, .b true, .b true, .b true, .b true, .b true] (by simp) (by simp) (kmp (by kernel_rfl) (Ai (r9 (r7cp.h0 w c st)) (Ai (rfl : false = false) (Ai (r20 (w) o0 (r7cp.h0 w c st)) (Ai (show (bnot (r20.v w)) = false by rw [h20]; try rfl) (Ai (show (bnot (r20.v w)) = false by rw [h20]; try rfl) (Ai (r21 (w) o1 o2 o3 (r7cp.h0 w c st)) (Ai (show (bnot (r20.v w)) = false by rw [h20]; try rfl) (Ai (show (bnot (r20.v w)) = false by rw [h20]; try rfl) (Ai (show (bnot (r21.v w == 0)) = false by rw [hz]; try rfl) (Ai (show (bnot (r21.v w == 0)) = false by rw [hz]; try rfl) (Ai (show (bnot (r21.v w == 0)) = false by rw [hz]; try rfl) (Ai (show (bnot (r21.v w == 0)) = false by rw [hz]; try rfl) (Ai hs (Ai (v26 (w) o1 o2 o3 o4 (r7cp.h0 w c st)) (Ai (r27 (w) o1 o5 o6 (r7cp.h0 w c st)) (Ai (rfl : false = false) (Ai (rfl : false = false) (Ai (rfl : false = false) (Ai (rfl : false = false) (Ai (rfl : false = false) (Ai (rfl : false = false) (Ai (show (bnot ((↑(nC w) : Int) == (↑(r41.v w + 1).toNat : Int))) = false by rw [hl]; try rfl) (Ai (L7l.e1 (w) o7 o8 o9 (c) (st) (0) (Ai (show (0 : Int) ≤ (0 : Int) by decide) o10) h1) (Ai (v29 (w) o1 o2 o3 o4 (c) (r7cp.h0 w c st)) (Ai c1 (Ai c1 (Ai c1 (Ai c1 (Ai c1 (Ai c3 (Ai (show (bnot (v29.v1 w c == 0)) = false by rw [c2]; try rfl) (Ai (show (bnot (v29.v1 w c == 0)) = false by rw [c2]; try rfl) (Ai (show (bnot (v29.v1 w c == 0)) = false by rw [c2]; try rfl) (Ai (show (bnot (v29.v1 w c == 0)) = false by rw [c2]; try rfl) (Ai (r30 (w) o1 (c) (r7cp.h0 w c st)) (Ai (show (bnot (v29.v1 w c == 0)) = false by rw [c2]; try rfl) (Ai (r17 ((v29.v0 w c).length) (fun (i : Nat) => (v29.v0 w c).getD i 0) o11 ((r30.v w c).length) (fun (i : Nat) => (r30.v w c).getD i 0) o12 (r7cp.h0 w c st)) (Ai (show (bnot (v29.v1 w c == 0)) = false by rw [c2]; try rfl) (Ai (show (bnot (v29.v1 w c == 0)) = false by rw [c2]; try rfl) (Ai (show (bnot (r17.v (v29.v0 w c).length (fun (i : Nat) => (v29.v0 w c).getD i 0) (r30.v w c).length fun (i : Nat) => (r30.v w c).getD i 0)) = false by rw [c4]; try rfl) (Ai (v25 (w) o1 o2 o3 o4 (st) (r7cp.h0 w c st)) (Ai (r31 (w) o1 (st) (r7cp.h0 w c st)) (Ai q1 (Ai q1 (Ai q1 (Ai q2 (Ai q2 (Ai q2 (Ai (r28 ((v25.v0 w st).length) (fun (i : Nat) => (v25.v0 w st).getD i ByteArray.empty) o13 ((r31.v0 w st).length) (fun (i : Nat) => (r31.v0 w st).getD i ByteArray.empty) o14 (r7cp.h0 w c st)) (Ai q2 (Ai q3 (Ai q3 (Ai q3 (Ai q3 (Ai q3 (Ai q3 (Ai q3 (Ai (show (AV.bool true) = ((AV.bool (r7cp.v w))) by simp only [r7cp.v, h20, hz, hl, c2, c4, h1, cond_true, cond_false]) trivial))))))))))))))))))))))))))))))))))))))))))))))))))))))))))) h
noncomputable def r7cq.v (w : WD) (st : ByteArray) : Bool := (match L7l.run w 0 with | .e0 => false | .e1 => (↑(v25.v0 w st).length : Int) == 0 )
noncomputable abbrev r7cq.h0 (w : WD) (c : Int) (st : ByteArray) : AHeap := ([AObj.var (WD.av w)])
theorem r7cq (w : WD) (hw : w.n ≤ 9223372036854775807) (hnm : w.nm.size ≤ 9223372036854775807) (hg : ∀ (i : Nat), (w.g i).nm.size ≤ 9223372036854775807) (c : Int) (st : ByteArray) (hst : st.size ≤ 9223372036854775807) (h20 : r20.v w = true) (hz : (r21.v w == 0) = true) (hs : decide ((↑st.size : Int) > 100) = false) (hl : ((↑(nC w) : Int) == (↑(r41.v w + 1).toNat : Int)) = true) (c1 : decide (c < 0) = false) (c3 : decide (c ≥ (↑(r41.v w + 1).toNat : Int)) = false) (c2 : (v29.v1 w c == 0) = true) (c4 : (r17.v (v29.v0 w c).length (fun (i : Nat) => (v29.v0 w c).getD i 0) (r30.v w c).length fun (i : Nat) => (r30.v w c).getD i 0) = true) (q1 : r31.v1 w st = false) (q2 : (v25.v1 w st == 3) = true) (h : AHeap) : Ret Try.prog 7 ([w.av, iv c, AV.str st]) h (AV.bool (r7cq.v w st)) h := by
 have o0 : w.n ≤ (9223372036854775807 : Nat) := by assumption
 have o1 : w.n ≤ (10000 : Nat) := by first | assumption | omega | (apply small_n <;> first | assumption | omega) | (exact hg _) | (exact hg _ (by omega)) | (simp_all; done)
 have o2 : w.nm.size ≤ (9223372036854775807 : Nat) := by assumption
 have o3 : ∀ (i : Nat), (w.g i).nm.size ≤ (9223372036854775807 : Nat) := by assumption
 have o4 : (r24.v w == (0 : Int)) = true := by first | assumption | omega | (apply chk0 <;> first | assumption | omega) | (apply chk1 <;> first | assumption | omega) | (exact hg _) | (exact hg _ (by omega)) | (simp_all; done)
 have o5 : r41.v w ≤ (99 : Int) := by first | assumption | omega | (apply top0 <;> first | assumption | omega) | (exact hg _) | (exact hg _ (by omega)) | (simp_all; done)
 have o6 : (-1 : Int) ≤ r41.v w := by first | assumption | omega | (apply top1 <;> first | assumption | omega) | (exact hg _) | (exact hg _ (by omega)) | (simp_all; done)
 have o7 : r20.v w = true := by assumption
 have o8 : nC w ≤ (1000 : Nat) := by first | assumption | omega | (apply nN7 <;> first | assumption | omega) | (exact hg _) | (exact hg _ (by omega)) | (simp_all; done)
 have o9 : ((↑(nC w) : Int) == (↑(r41.v w + (1 : Int)).toNat : Int)) = true := by assumption
 have o10 : (0 : Int) ≤ (↑(nC w) : Int) := by omega
 cases h1 : L7l.run w 0 with
 | e0 =>
  exact Ret.of_run1 mix [(AV.bool (r7cq.v w st))] Try.func7 rfl [.ret (AV.bool r9.v) (r7cq.h0 w c st), .b false, .ret (AV.bool (r20.v w)) (r7cq.h0 w c st), .b false, .b false, .ret (iv (r21.v w)) (r7cq.h0 w c st), .b false, .b false, .b false, .b false, .b false, .b false, .b false, .ret (AV.tup [AV.sl 1 (nC w) fun (j : Nat) => AV.sl 1 ((fun (j : Nat) => List.map SD.nm (cC w j)) j).length fun (q : Nat) => AV.str (((fun (j : Nat) => List.map SD.nm (cC w j)) j).getD q ByteArray.empty), iv 0]) (r7cq.h0 w c st), .ret (AV.sl 1 (r41.v w + 1).toNat fun (j : Nat) => AV.sl 1 ((fun (j : Nat) => List.map SD.nm (corR w.g (↑j : Int) w.n)) j).length fun (q : Nat) => AV.str (((fun (j : Nat) => List.map SD.nm (corR w.g (↑j : Int) w.n)) j).getD q ByteArray.empty)) (r7cq.h0 w c st), .b false, .b false, .b false, .b false, .b false, .b false, .b false, .loop (others 130 [1, 2, 3, 7, 9, 10]) (Exit.ret) (L7l.X w c st L7l.O.e0) (L7l.XH w c st L7l.O.e0)] (by simp) (by simp) (kmp (by kernel_rfl) (Ai (r9 (r7cq.h0 w c st)) (Ai (rfl : false = false) (Ai (r20 (w) o0 (r7cq.h0 w c st)) (Ai (show (bnot (r20.v w)) = false by rw [h20]; try rfl) (Ai (show (bnot (r20.v w)) = false by rw [h20]; try rfl) (Ai (r21 (w) o1 o2 o3 (r7cq.h0 w c st)) (Ai (show (bnot (r20.v w)) = false by rw [h20]; try rfl) (Ai (show (bnot (r20.v w)) = false by rw [h20]; try rfl) (Ai (show (bnot (r21.v w == 0)) = false by rw [hz]; try rfl) (Ai (show (bnot (r21.v w == 0)) = false by rw [hz]; try rfl) (Ai (show (bnot (r21.v w == 0)) = false by rw [hz]; try rfl) (Ai (show (bnot (r21.v w == 0)) = false by rw [hz]; try rfl) (Ai hs (Ai (v26 (w) o1 o2 o3 o4 (r7cq.h0 w c st)) (Ai (r27 (w) o1 o5 o6 (r7cq.h0 w c st)) (Ai (rfl : false = false) (Ai (rfl : false = false) (Ai (rfl : false = false) (Ai (rfl : false = false) (Ai (rfl : false = false) (Ai (rfl : false = false) (Ai (show (bnot ((↑(nC w) : Int) == (↑(r41.v w + 1).toNat : Int))) = false by rw [hl]; try rfl) (Ai (L7l.e0 (w) o7 o8 o9 (c) (st) (0) (Ai (show (0 : Int) ≤ (0 : Int) by decide) o10) h1) (Ai (show (AV.bool false) = ((AV.bool (r7cq.v w st))) by simp only [r7cq.v, h20, hz, hl, h1, cond_true, cond_false]) trivial))))))))))))))))))))))))) h
 | e1 =>
  have o11 : (v29.v0 w c).length ≤ (9223372036854775807 : Nat) := by first | assumption | omega | (simp only [List.length_append, List.length_cons, List.length_nil, List.length_map]; omega) | (apply len_29 <;> first | assumption | omega) | (exact hg _) | (exact hg _ (by omega)) | (simp_all; done)
  have o12 : (r30.v w c).length ≤ (9223372036854775807 : Nat) := by first | assumption | omega | (simp only [List.length_append, List.length_cons, List.length_nil, List.length_map]; omega) | (apply len_30 <;> first | assumption | omega) | (exact hg _) | (exact hg _ (by omega)) | (simp_all; done)
  exact Ret.of_run1 mix [(AV.bool (r7cq.v w st))] Try.func7 rfl [.ret (AV.bool r9.v) (r7cq.h0 w c st), .b false, .ret (AV.bool (r20.v w)) (r7cq.h0 w c st), .b false, .b false, .ret (iv (r21.v w)) (r7cq.h0 w c st), .b false, .b false, .b false, .b false, .b false, .b false, .b false, .ret (AV.tup [AV.sl 1 (nC w) fun (j : Nat) => AV.sl 1 ((fun (j : Nat) => List.map SD.nm (cC w j)) j).length fun (q : Nat) => AV.str (((fun (j : Nat) => List.map SD.nm (cC w j)) j).getD q ByteArray.empty), iv 0]) (r7cq.h0 w c st), .ret (AV.sl 1 (r41.v w + 1).toNat fun (j : Nat) => AV.sl 1 ((fun (j : Nat) => List.map SD.nm (corR w.g (↑j : Int) w.n)) j).length fun (q : Nat) => AV.str (((fun (j : Nat) => List.map SD.nm (corR w.g (↑j : Int) w.n)) j).getD q ByteArray.empty)) (r7cq.h0 w c st), .b false, .b false, .b false, .b false, .b false, .b false, .b false, .loop (others 130 [1, 2, 3, 7, 9, 10]) (Exit.exit 0) (L7l.X w c st L7l.O.e1) (L7l.XH w c st L7l.O.e1), .ret (AV.tup [AV.sl 1 (v29.v0 w c).length fun (a : Nat) => iv ((v29.v0 w c).getD a 0), iv (v29.v1 w c)]) (r7cq.h0 w c st), .b false, .b false, .b false, .b false, .b false, .b false, .b false, .b false, .b false, .b false, .ret (AV.sl 1 (r30.v w c).length fun (a : Nat) => iv ((r30.v w c).getD a 0)) (r7cq.h0 w c st), .b false, .ret (AV.bool (r17.v (v29.v0 w c).length (fun (i : Nat) => (v29.v0 w c).getD i 0) (r30.v w c).length fun (i : Nat) => (r30.v w c).getD i 0)) (r7cq.h0 w c st), .b false, .b false, .b false, .ret (AV.tup [AV.sl 1 (v25.v0 w st).length fun (a : Nat) => AV.str ((v25.v0 w st).getD a ByteArray.empty), iv (v25.v1 w st)]) (r7cq.h0 w c st), .ret (AV.tup [AV.sl 1 (r31.v0 w st).length fun (a : Nat) => AV.str ((r31.v0 w st).getD a ByteArray.empty), AV.bool (r31.v1 w st)]) (r7cq.h0 w c st), .b false, .b false, .b false, .b false, .b false, .b false, .b false, .b false, .b false, .b false, .b true, .b true, .b false, .b true, .b false, .b true, .b true, .b true, .b false, .b true, .b false] (by simp) (by simp) (kmp (by kernel_rfl) (Ai (r9 (r7cq.h0 w c st)) (Ai (rfl : false = false) (Ai (r20 (w) o0 (r7cq.h0 w c st)) (Ai (show (bnot (r20.v w)) = false by rw [h20]; try rfl) (Ai (show (bnot (r20.v w)) = false by rw [h20]; try rfl) (Ai (r21 (w) o1 o2 o3 (r7cq.h0 w c st)) (Ai (show (bnot (r20.v w)) = false by rw [h20]; try rfl) (Ai (show (bnot (r20.v w)) = false by rw [h20]; try rfl) (Ai (show (bnot (r21.v w == 0)) = false by rw [hz]; try rfl) (Ai (show (bnot (r21.v w == 0)) = false by rw [hz]; try rfl) (Ai (show (bnot (r21.v w == 0)) = false by rw [hz]; try rfl) (Ai (show (bnot (r21.v w == 0)) = false by rw [hz]; try rfl) (Ai hs (Ai (v26 (w) o1 o2 o3 o4 (r7cq.h0 w c st)) (Ai (r27 (w) o1 o5 o6 (r7cq.h0 w c st)) (Ai (rfl : false = false) (Ai (rfl : false = false) (Ai (rfl : false = false) (Ai (rfl : false = false) (Ai (rfl : false = false) (Ai (rfl : false = false) (Ai (show (bnot ((↑(nC w) : Int) == (↑(r41.v w + 1).toNat : Int))) = false by rw [hl]; try rfl) (Ai (L7l.e1 (w) o7 o8 o9 (c) (st) (0) (Ai (show (0 : Int) ≤ (0 : Int) by decide) o10) h1) (Ai (v29 (w) o1 o2 o3 o4 (c) (r7cq.h0 w c st)) (Ai c1 (Ai c1 (Ai c1 (Ai c1 (Ai c1 (Ai c3 (Ai (show (bnot (v29.v1 w c == 0)) = false by rw [c2]; try rfl) (Ai (show (bnot (v29.v1 w c == 0)) = false by rw [c2]; try rfl) (Ai (show (bnot (v29.v1 w c == 0)) = false by rw [c2]; try rfl) (Ai (show (bnot (v29.v1 w c == 0)) = false by rw [c2]; try rfl) (Ai (r30 (w) o1 (c) (r7cq.h0 w c st)) (Ai (show (bnot (v29.v1 w c == 0)) = false by rw [c2]; try rfl) (Ai (r17 ((v29.v0 w c).length) (fun (i : Nat) => (v29.v0 w c).getD i 0) o11 ((r30.v w c).length) (fun (i : Nat) => (r30.v w c).getD i 0) o12 (r7cq.h0 w c st)) (Ai (show (bnot (v29.v1 w c == 0)) = false by rw [c2]; try rfl) (Ai (show (bnot (v29.v1 w c == 0)) = false by rw [c2]; try rfl) (Ai (show (bnot (r17.v (v29.v0 w c).length (fun (i : Nat) => (v29.v0 w c).getD i 0) (r30.v w c).length fun (i : Nat) => (r30.v w c).getD i 0)) = false by rw [c4]; try rfl) (Ai (v25 (w) o1 o2 o3 o4 (st) (r7cq.h0 w c st)) (Ai (r31 (w) o1 (st) (r7cq.h0 w c st)) (Ai q1 (Ai q1 (Ai q1 (Ai (rfl : false = false) (Ai (rfl : false = false) (Ai (rfl : false = false) (Ai (rfl : false = false) (Ai (rfl : false = false) (Ai (rfl : false = false) (Ai (rfl : false = false) (Ai (show (bnot (r31.v1 w st)) = true by rw [q1]; try rfl) (Ai (show (bnot (r31.v1 w st)) = true by rw [q1]; try rfl) (Ai (rfl : false = false) (Ai (show (bnot (r31.v1 w st)) = true by rw [q1]; try rfl) (Ai (rfl : false = false) (Ai q2 (Ai q2 (Ai q2 (Ai (rfl : false = false) (Ai q2 (Ai (rfl : false = false) (Ai (show (AV.bool ((↑(v25.v0 w st).length : Int) == 0)) = ((AV.bool (r7cq.v w st))) by simp only [r7cq.v, h20, hz, hl, c2, c4, q1, h1, cond_true, cond_false]) trivial))))))))))))))))))))))))))))))))))))))))))))))))))))))))))))))))) h
end Go.Proofs.Ytjdbmmilcihpoaa
open Go
namespace Go.Proofs.Ytjdbmmilcihpoaa
set_option maxHeartbeats 0
set_option maxRecDepth 100000
set_option linter.unusedVariables false
set_option linter.unusedSimpArgs false
theorem nC_top {w : WD} (h20 : r20.v w = true) : ((nC w : Int) == ((r41.v w + 1).toNat : Int)) = true := by
 rw [r41_v w (small_n h20)]
 unfold nC; simp
section
variable {w : WD} (h20 : r20.v w = true) (hnm : w.nm.size ≤ 9223372036854775807) (hg : ∀ i, (w.g i).nm.size ≤ 9223372036854775807) (hz : (r21.v w == 0) = true)
include h20 hnm hg hz
theorem L7l_run : L7l.run w 0 = .e1 := by
 have hn := small_n h20
 have hN := v_N hn (chk0 h20 hnm hg hz)
 have := scan_eq (N := L7l.N w) (n := nC w) (fun i => false) .e0 .e1 0 (fun k i _ h => by
  simp only [L7l.N, Int.toNat_natCast]
  rw [decide_eq_true (show (i : Int) < (nC w : Int) by omega), cond_true, wrap_s (Nat.le_of_lt h) (by omega), v_cor hn (chk0 h20 hnm hg hz) i, r28_list (by have := cC_len hn i; rw [List.length_map]; omega) rfl]
  rfl) (fun k i _ h => by
  simp only [L7l.N]
  rw [decide_eq_false (show ¬ (i : Int) < (nC w : Int) by omega), cond_false]) (((nC w : Int) - ((0 : Nat) : Int)).toNat + 1) 0 (Nat.zero_le _) (by omega)
 have e : L7l.run w 0 = (bif anyN (nC w) (fun j => decide (0 ≤ j) && false) then L7l.O.e0 else L7l.O.e1) := this
 rw [e, anyN_false.2 fun i _ => by simp]
 rfl
end
theorem vals (w : WD) (st : ByteArray) (h1 : L7l.run w 0 = .e1) : r7ap.v w = true ∧ r7bp.v w = true ∧ r7cp.v w = true ∧ (v25.v0 w st = [] → r7aq.v w st = true ∧ r7bq.v w st = true ∧ r7cq.v w st = true) := by
 unfold r7ap.v r7bp.v r7cp.v r7aq.v r7bq.v r7cq.v
 rw [h1]
 exact ⟨rfl, rfl, rfl, fun e => by rw [e]; exact ⟨rfl, rfl, rfl⟩⟩
theorem law7t (w : WD) (hw : w.n ≤ 9223372036854775807) (hnm : w.nm.size ≤ 9223372036854775807) (hg : ∀ i, (w.g i).nm.size ≤ 9223372036854775807) (c : Int) (st : ByteArray) (hst : st.size ≤ 9223372036854775807) (h : AHeap) :
 Ret Try.prog 7 [w.av, AV.int .i64 c, AV.str st] h (.bool true) h := by
 cases h20 : r20.v w with
 | false => exact r7x w hw hnm hg c st hst h20 h
 | true =>
 cases hz : r21.v w == 0 with
 | false => exact r7y w hw hnm hg c st hst h20 hz h
 | true =>
 cases hs : decide ((st.size : Int) > 100) with
 | true => exact r7z w hw hnm hg c st hst h20 hz hs h
 | false =>
 have hn := small_n h20
 have he := chk0 h20 hnm hg hz
 have hl := nC_top h20
 obtain ⟨a1, a2, a3, a4⟩ := vals w st (L7l_run h20 hnm hg hz)
 have eN : ((r41.v w + 1).toNat : Int) = (nC w : Int) := (eq_of_beq hl).symm
 cases c1 : decide (c < 0) with
 | true =>
  have c2 : (v29.v1 w c == 3) = true := by unfold v29.v1; rw [c1]; rfl
  have c5 : (((v29.v0 w c).length : Int) == 0) = true := by unfold v29.v0; rw [c1]; rfl
  rcases rests_eq (st := st) hn he with ⟨q1, q2, q3⟩ | ⟨q1, q2, q3⟩
  · rw [← (a4 q3).1]
    exact r7aq w hw hnm hg c st hst h20 hz hs hl c1 c2 c5 q1 (by rw [q2]; rfl) h
  · rw [← a1]
    exact r7ap w hw hnm hg c st hst h20 hz hs hl c1 c2 c5 q1 (by rw [q2]; rfl) (r28_list (v25_len hn he) q3) h
 | false =>
 cases c3 : decide (c ≥ ((r41.v w + 1).toNat : Int)) with
 | true =>
  have d3 : decide (c ≥ (nC w : Int)) = true := by rw [← eN]; exact c3
  have c2 : (v29.v1 w c == 3) = true := by unfold v29.v1; rw [c1, d3]; rfl
  have c5 : (((v29.v0 w c).length : Int) == 0) = true := by unfold v29.v0; rw [c1, d3]; rfl
  rcases rests_eq (st := st) hn he with ⟨q1, q2, q3⟩ | ⟨q1, q2, q3⟩
  · rw [← (a4 q3).2.1]
    exact r7bq w hw hnm hg c st hst h20 hz hs hl c1 c3 c2 c5 q1 (by rw [q2]; rfl) h
  · rw [← a2]
    exact r7bp w hw hnm hg c st hst h20 hz hs hl c1 c3 c2 c5 q1 (by rw [q2]; rfl) (r28_list (v25_len hn he) q3) h
 | false =>
  have d3 : decide (c ≥ (nC w : Int)) = false := by rw [← eN]; exact c3
  have h0 : 0 ≤ c := by have := of_decide_eq_false c1; omega
  have c2 : (v29.v1 w c == 0) = true := by unfold v29.v1; rw [c1, d3]; rfl
  have e0 : v29.v0 w c = r30.v w c := by
   unfold v29.v0
   rw [c1, d3]
   have := r30_45 hn he c.toNat
   rw [Int.toNat_of_nonneg h0] at this
   exact this.symm
  have hl0 : (v29.v0 w c).length ≤ 1000000 := by
   rw [e0, r30_v hn, jts_len]; have := cor_le hn c; omega
  have c4 := r17_list hl0 e0
  rcases rests_eq (st := st) hn he with ⟨q1, q2, q3⟩ | ⟨q1, q2, q3⟩
  · rw [← (a4 q3).2.2]
    exact r7cq w hw hnm hg c st hst h20 hz hs hl c1 c3 c2 c4 q1 (by rw [q2]; rfl) h
  · rw [← a3]
    exact r7cp w hw hnm hg c st hst h20 hz hs hl c1 c3 c2 c4 q1 (by rw [q2]; rfl) (r28_list (v25_len hn he) q3) h
end Go.Proofs.Ytjdbmmilcihpoaa
open Go
namespace Go.Proofs.Ytjdbmmilcihpoaa
open Go.ChangeShapes Go.WideShapes Go.ChangeAt Go.RowKit
set_option maxRecDepth 100000 in
theorem law7 (xs : List AV) (h : FitsA Try.prog 8 [36, 3, 9] xs) : Ret Try.prog 7 xs [] (.bool true) [] := by
 obtain ⟨x0, x1, x2, rfl, h0, h1, h2⟩ := fitsA3 h
 obtain ⟨w, hw, hnm, hg, i0⟩ := arg_wall h0
 obtain ⟨u1, rfl, lo1, hi1⟩ := arg_num h1
 obtain ⟨s2, rfl, hs2⟩ := arg_str h2
 have := law7t w hw hnm hg u1 s2 hs2 []
 rw [show AV.bool true = AV.bool true from rfl] at this
 exact this.imp (.cons i0 (.cons (.refl _) (.cons (.refl _) .nil)))
set_option maxRecDepth 100000 in
theorem wallCourses_lifted (os : Os) (started : os.Started) (H : Type) (enc : TypeId × Value → H) :
 ReturnsInHanded {} Try.checked os 7 .any (Rows.wallCoursesSpec.pre6 enc Try.prog Try.f7 Rows.wallCoursesRow.domain false) (Rows.wallCoursesSpec.post enc Try.prog Try.f7 false true false false) :=
 lifted (C := Try.checked) 8 own started (by kernel_rfl) Try.func7
  (ChangeSpec.witness6 (enc := enc) (C := Try.checked) false ⟨#[], #[.agg #[.string ByteArray.empty, .slice none 0 0, .int .i64 0, .int .i64 0, .int .i64 0, .int .i64 0], .int .i64 0, .string ByteArray.empty], []⟩ 8 (by kernel_rfl) (by kernel_rfl) (by kernel_rfl) (by kernel_rfl))
  rfl (fun ds hd => by
   match ds, hd with
   | [_, _, _], _ => rfl) (rt := 4) (by kernel_rfl) (by kernel_rfl) laidOut (by kernel_rfl) law7
theorem wallCourses_holds : Rows.WallCoursesSaid :=
 OpenClaim.holds_of_wide 7 Try.f7 rfl rfl rfl rfl rfl rfl rfl ⟨rfl, rfl, rfl, rfl, rfl⟩ rfl rfl rfl rfl rfl (by kernel_rfl) Try.func7 (by kernel_rfl)
  (of_decide_eq_true (by kernel_rfl)) (by unfold Func.isWrapper; first | (rw [if_pos (by decide +kernel)]; kernel_rfl) | (rw [if_neg (by decide +kernel)]; exact ⟨rfl, rfl⟩))
  (fun os started H enc _ => wallCourses_lifted os started H enc)
end Go.Proofs.Ytjdbmmilcihpoaa
