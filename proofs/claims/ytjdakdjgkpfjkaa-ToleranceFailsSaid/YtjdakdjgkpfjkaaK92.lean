/- Contracts of the functions and plain laws, part 2. Conditions: none. -/
import Derived.Test.YtjdakdjgkpfjkaaK91

/- the tolerance seat's contracts: Closes, Failing and the reference's. -/
open Go
namespace Go.Proofs.Ytjdakdjgkpfjkaa
set_option linter.unusedSimpArgs false
set_option linter.unusedVariables false
set_option maxHeartbeats 0
set_option maxRecDepth 100000
noncomputable def r18.v0 (n : Nat) (g : Nat → PD) (j1 : Int) (j2 : Int) (k : Nat) (p : Nat → PD) : Bool := (bif r16.v n g j1 j2 k p == 0 then decide (r41.v0 n g j1 j2 k p < 0) else false)
noncomputable def r18.v1 (n : Nat) (g : Nat → PD) (j1 : Int) (j2 : Int) (k : Nat) (p : Nat → PD) : Int := (bif r16.v n g j1 j2 k p == 0 then 0 else r16.v n g j1 j2 k p)
noncomputable abbrev r18.h0 (n : Nat) (g : Nat → PD) (j1 : Int) (j2 : Int) (k : Nat) (p : Nat → PD) : AHeap := ([AObj.var (AV.agg [AV.sl 2 n fun (i : Nat) => AV.agg [AV.int IntKind.i64 (g i).lo, AV.int IntKind.i64 (g i).hi], AV.int IntKind.i64 j1, AV.int IntKind.i64 j2, AV.sl 2 k fun (i : Nat) => AV.agg [AV.int IntKind.i64 (p i).lo, AV.int IntKind.i64 (p i).hi]])])
theorem r18 (n : Nat) (g : Nat → PD) (hn : n ≤ 9223372036854775807) (j1 : Int) (j2 : Int) (k : Nat) (p : Nat → PD) (hk : k ≤ 30) (h : AHeap) : Ret Try.prog 18 ([rn n g j1 j2 k p]) h (AV.tup [(AV.bool (r18.v0 n g j1 j2 k p)), (AV.int IntKind.i64 (r18.v1 n g j1 j2 k p))]) h := by
  have o0 : n ≤ (9223372036854775807 : Nat) := by first | assumption | omega | (simp_all; done)
  have o1 : k ≤ (9223372036854775807 : Nat) := by first | assumption | omega | (simp_all; done)
  cases h1 : r16.v n g j1 j2 k p == 0 with
  | true =>
    have h1p := eq_of_beq h1
    have o2 : k ≤ (30 : Nat) := by first | assumption | omega | (simp_all; done)
    have o3 : ROk n g j1 j2 k p := by first | assumption | (apply ok_of <;> first | assumption | omega) | (simp_all; done)
    exact Ret.of_run1 mix [(AV.bool (r18.v0 n g j1 j2 k p)), (AV.int IntKind.i64 (r18.v1 n g j1 j2 k p))] Try.func18 rfl [.ret (AV.int IntKind.i64 (r16.v n g j1 j2 k p)) (r18.h0 n g j1 j2 k p), .b false, .ret (AV.tup [AV.int IntKind.i64 (r41.v0 n g j1 j2 k p), AV.bool (r41.v1 n g j1 j2 k p)]) (r18.h0 n g j1 j2 k p)] (by simp) (by simp) (kmp (by kernel_rfl) (And.intro (r16 (n) (g) o0 (j1) (j2) (k) (p) o1 (r18.h0 n g j1 j2 k p)) (And.intro (show (bnot (r16.v n g j1 j2 k p == 0)) = false by rw [h1]; try rfl) (And.intro (r41 (n) (g) o0 (j1) (j2) (k) (p) o2 o3 (r18.h0 n g j1 j2 k p)) (And.intro (show (AV.bool (decide (r41.v0 n g j1 j2 k p < 0))) = ((AV.bool (r18.v0 n g j1 j2 k p))) by first | (simp only [r18.v0, r18.v1, h1, cond_true, cond_false]; done) | (try unfold r18.v0; try unfold r18.v1; try simp only [h1, cond_true, cond_false]; try rfl; done) | rfl) (And.intro (show (AV.int IntKind.i64 0) = ((AV.int IntKind.i64 (r18.v1 n g j1 j2 k p))) by first | (simp only [r18.v0, r18.v1, h1, cond_true, cond_false]; done) | (try unfold r18.v0; try unfold r18.v1; try simp only [h1, cond_true, cond_false]; try rfl; done) | rfl) trivial)))))) h
  | false =>
    have h1p := ne_of_beq_false h1
    exact Ret.of_run1 mix [(AV.bool (r18.v0 n g j1 j2 k p)), (AV.int IntKind.i64 (r18.v1 n g j1 j2 k p))] Try.func18 rfl [.ret (AV.int IntKind.i64 (r16.v n g j1 j2 k p)) (r18.h0 n g j1 j2 k p), .b true] (by simp) (by simp) (kmp (by kernel_rfl) (And.intro (r16 (n) (g) o0 (j1) (j2) (k) (p) o1 (r18.h0 n g j1 j2 k p)) (And.intro (show (bnot (r16.v n g j1 j2 k p == 0)) = true by rw [h1]; try rfl) (And.intro (show (AV.bool false) = ((AV.bool (r18.v0 n g j1 j2 k p))) by first | (simp only [r18.v0, r18.v1, h1, cond_true, cond_false]; done) | (try unfold r18.v0; try unfold r18.v1; try simp only [h1, cond_true, cond_false]; try rfl; done) | rfl) (And.intro (show (AV.int IntKind.i64 (r16.v n g j1 j2 k p)) = ((AV.int IntKind.i64 (r18.v1 n g j1 j2 k p))) by first | (simp only [r18.v0, r18.v1, h1, cond_true, cond_false]; done) | (try unfold r18.v0; try unfold r18.v1; try simp only [h1, cond_true, cond_false]; try rfl; done) | rfl) trivial))))) h

inductive L19a.O where
  | e0 (a0 : Nat) (a1 : List Int)
noncomputable def L19a.T (n : Nat) (g : Nat → PD) (j1 : Int) (j2 : Int) (k : Nat) (p : Nat → PD) (av9 : Nat) (al9 : List Int) (a37 : Int) : List AV := mkT 55 [(6, AV.int IntKind.i64 (r41.v0 n g j1 j2 k p)), (7, AV.bool (r41.v1 n g j1 j2 k p)), (9, AV.ms 2 av9 1 0 al9.length), (35, AV.sl 2 ((rget (r42.v k p) (r41.v0 n g j1 j2 k p).toNat).b.toNat - (rget (r42.v k p) (r41.v0 n g j1 j2 k p).toNat).a.toNat) fun (i : Nat) => AV.agg [AV.int IntKind.i64 (g ((rget (r42.v k p) (r41.v0 n g j1 j2 k p).toNat).a.toNat + i)).lo, AV.int IntKind.i64 (g ((rget (r42.v k p) (r41.v0 n g j1 j2 k p).toNat).a.toNat + i)).hi]), (36, AV.int IntKind.i64 (↑((rget (r42.v k p) (r41.v0 n g j1 j2 k p).toNat).b.toNat - (rget (r42.v k p) (r41.v0 n g j1 j2 k p).toNat).a.toNat) : Int)), (37, AV.int IntKind.i64 a37)]
noncomputable def L19a.H (n : Nat) (g : Nat → PD) (j1 : Int) (j2 : Int) (k : Nat) (p : Nat → PD) (av9 : Nat) (al9 : List Int) (a37 : Int) : AHeap := [AObj.dead, AObj.dead, AObj.row 1 av9 (Col.ints IntKind.i64 al9)]
def L19a.inv (n : Nat) (g : Nat → PD) (j1 : Int) (j2 : Int) (k : Nat) (p : Nat → PD) (av9 : Nat) (al9 : List Int) (a37 : Int) : Prop := 0 ≤ a37 ∧ (a37 ≤ (↑((rget (r42.v k p) (r41.v0 n g j1 j2 k p).toNat).b.toNat - (rget (r42.v k p) (r41.v0 n g j1 j2 k p).toNat).a.toNat) : Int) ∨ a37 ≤ 0) ∧ (↑al9.length : Int) ≤ a37 - 0
noncomputable def L19a.mu (n : Nat) (g : Nat → PD) (j1 : Int) (j2 : Int) (k : Nat) (p : Nat → PD) (av9 : Nat) (al9 : List Int) (a37 : Int) : Nat := ((↑((rget (r42.v k p) (r41.v0 n g j1 j2 k p).toNat).b.toNat - (rget (r42.v k p) (r41.v0 n g j1 j2 k p).toNat).a.toNat) : Int) - a37).toNat
noncomputable def L19a.E : L19a.O → Exit
  | .e0 a0 a1 => Exit.exit 0
noncomputable def L19a.X (n : Nat) (g : Nat → PD) (j1 : Int) (j2 : Int) (k : Nat) (p : Nat → PD) : L19a.O → List AV
  | .e0 a0 a1 => mkT 55 [(6, (AV.int IntKind.i64 (r41.v0 n g j1 j2 k p))), (9, (AV.ms 2 a0 1 0 (List.length a1)))]
noncomputable def L19a.XH (n : Nat) (g : Nat → PD) (j1 : Int) (j2 : Int) (k : Nat) (p : Nat → PD) : L19a.O → AHeap
  | .e0 a0 a1 => ((AObj.dead) :: ((AObj.dead) :: ((AObj.row 1 a0 (Col.ints IntKind.i64 a1)) :: ([]))))
noncomputable def L19a.N (n : Nat) (g : Nat → PD) (j1 : Int) (j2 : Int) (k : Nat) (p : Nat → PD) : Nat → Nat → (List Int) → Int → L19a.O
  | 0, _, _, _ => .e0 default default
  | k_ + 1, av9, al9, a37 => (bif decide (a37 < (↑((rget (r42.v k p) (r41.v0 n g j1 j2 k p).toNat).b.toNat - (rget (r42.v k p) (r41.v0 n g j1 j2 k p).toNat).a.toNat) : Int)) then (bif r41.v1 n g j1 j2 k p then (L19a.N n g j1 j2 k p k_ (av9 + 1) (al9 ++ [(g ((rget (r42.v k p) (r41.v0 n g j1 j2 k p).toNat).a.toNat + a37.toNat)).hi]) (IntKind.i64.wrap (a37 + 1))) else (L19a.N n g j1 j2 k p k_ (av9 + 1) (al9 ++ [(g ((rget (r42.v k p) (r41.v0 n g j1 j2 k p).toNat).a.toNat + a37.toNat)).lo]) (IntKind.i64.wrap (a37 + 1)))) else (.e0 (av9) (al9)))
noncomputable def L19a.run (n : Nat) (g : Nat → PD) (j1 : Int) (j2 : Int) (k : Nat) (p : Nat → PD) (av9 : Nat) (al9 : List Int) (a37 : Int) : L19a.O := L19a.N n g j1 j2 k p ((((↑((rget (r42.v k p) (r41.v0 n g j1 j2 k p).toNat).b.toNat - (rget (r42.v k p) (r41.v0 n g j1 j2 k p).toNat).a.toNat) : Int) - a37).toNat) + 1) av9 al9 a37
def L19a.Next (n : Nat) (g : Nat → PD) (j1 : Int) (j2 : Int) (k : Nat) (p : Nat → PD) (k_ : Nat) (z_ : Nat × (List Int) × Int) (T_ : List AV) (h_ : AHeap) : Prop := LNextP (fun (z_ : Nat × (List Int) × Int) => L19a.T n g j1 j2 k p z_.1 z_.2.1 z_.2.2) (fun (z_ : Nat × (List Int) × Int) => L19a.H n g j1 j2 k p z_.1 z_.2.1 z_.2.2) (fun (z_ : Nat × (List Int) × Int) => L19a.inv n g j1 j2 k p z_.1 z_.2.1 z_.2.2) (fun (z_ : Nat × (List Int) × Int) => L19a.mu n g j1 j2 k p z_.1 z_.2.1 z_.2.2) (fun (k_ : Nat) (z_ : Nat × (List Int) × Int) => L19a.N n g j1 j2 k p k_ z_.1 z_.2.1 z_.2.2) k_ z_ T_ h_
def L19a.End (n : Nat) (g : Nat → PD) (j1 : Int) (j2 : Int) (k : Nat) (p : Nat → PD) (k_ : Nat) (z_ : Nat × (List Int) × Int) (e_ : Exit) (T_ : List AV) (h_ : AHeap) : Prop := LEndP (fun (z_ : Nat × (List Int) × Int) => L19a.H n g j1 j2 k p z_.1 z_.2.1 z_.2.2) (fun (k_ : Nat) (z_ : Nat × (List Int) × Int) => L19a.N n g j1 j2 k p k_ z_.1 z_.2.1 z_.2.2) L19a.E (L19a.X n g j1 j2 k p) (L19a.XH n g j1 j2 k p) k_ z_ e_ T_ h_
theorem L19a.nx (n : Nat) (g : Nat → PD) (j1 : Int) (j2 : Int) (k : Nat) (p : Nat → PD) {k_ : Nat} {z_ : Nat × (List Int) × Int} {h_ : AHeap} (s_ : Nat × (List Int) × Int) (h1 : L19a.inv n g j1 j2 k p s_.1 s_.2.1 s_.2.2) (h2 : L19a.mu n g j1 j2 k p s_.1 s_.2.1 s_.2.2 < L19a.mu n g j1 j2 k p z_.1 z_.2.1 z_.2.2) (h3 : L19a.N n g j1 j2 k p k_ s_.1 s_.2.1 s_.2.2 = L19a.N n g j1 j2 k p (k_ + 1) z_.1 z_.2.1 z_.2.2) (h4 : PopOk (L19a.H n g j1 j2 k p z_.1 z_.2.1 z_.2.2) h_ (L19a.T n g j1 j2 k p s_.1 s_.2.1 s_.2.2) (L19a.H n g j1 j2 k p s_.1 s_.2.1 s_.2.2)) : LNextP (fun (z_ : Nat × (List Int) × Int) => L19a.T n g j1 j2 k p z_.1 z_.2.1 z_.2.2) (fun (z_ : Nat × (List Int) × Int) => L19a.H n g j1 j2 k p z_.1 z_.2.1 z_.2.2) (fun (z_ : Nat × (List Int) × Int) => L19a.inv n g j1 j2 k p z_.1 z_.2.1 z_.2.2) (fun (z_ : Nat × (List Int) × Int) => L19a.mu n g j1 j2 k p z_.1 z_.2.1 z_.2.2) (fun (k_ : Nat) (z_ : Nat × (List Int) × Int) => L19a.N n g j1 j2 k p k_ z_.1 z_.2.1 z_.2.2) k_ z_ (L19a.T n g j1 j2 k p s_.1 s_.2.1 s_.2.2) h_ := LNextP.mk (Tm := (fun (z_ : Nat × (List Int) × Int) => L19a.T n g j1 j2 k p z_.1 z_.2.1 z_.2.2)) (Hp := (fun (z_ : Nat × (List Int) × Int) => L19a.H n g j1 j2 k p z_.1 z_.2.1 z_.2.2)) (inv := (fun (z_ : Nat × (List Int) × Int) => L19a.inv n g j1 j2 k p z_.1 z_.2.1 z_.2.2)) (mu := (fun (z_ : Nat × (List Int) × Int) => L19a.mu n g j1 j2 k p z_.1 z_.2.1 z_.2.2)) (l := (fun (k_ : Nat) (z_ : Nat × (List Int) × Int) => L19a.N n g j1 j2 k p k_ z_.1 z_.2.1 z_.2.2)) s_ h1 h2 h3 h4
theorem L19a.en (n : Nat) (g : Nat → PD) (j1 : Int) (j2 : Int) (k : Nat) (p : Nat → PD) {k_ : Nat} {z_ : Nat × (List Int) × Int} {h_ : AHeap} (o_ : L19a.O) (h3 : L19a.N n g j1 j2 k p (k_ + 1) z_.1 z_.2.1 z_.2.2 = o_) (h4 : PopOk (L19a.H n g j1 j2 k p z_.1 z_.2.1 z_.2.2) h_ (L19a.X n g j1 j2 k p o_) (L19a.XH n g j1 j2 k p o_)) : LEndP (fun (z_ : Nat × (List Int) × Int) => L19a.H n g j1 j2 k p z_.1 z_.2.1 z_.2.2) (fun (k_ : Nat) (z_ : Nat × (List Int) × Int) => L19a.N n g j1 j2 k p k_ z_.1 z_.2.1 z_.2.2) L19a.E (L19a.X n g j1 j2 k p) (L19a.XH n g j1 j2 k p) k_ z_ (L19a.E o_) (L19a.X n g j1 j2 k p o_) h_ := LEndP.mk (Hp := (fun (z_ : Nat × (List Int) × Int) => L19a.H n g j1 j2 k p z_.1 z_.2.1 z_.2.2)) (l := (fun (k_ : Nat) (z_ : Nat × (List Int) × Int) => L19a.N n g j1 j2 k p k_ z_.1 z_.2.1 z_.2.2)) (oE := L19a.E) (oT := L19a.X n g j1 j2 k p) (oH := L19a.XH n g j1 j2 k p) o_ h3 h4
theorem L19a.spec (n : Nat) (g : Nat → PD) (hn : n ≤ 9223372036854775807) (j1 : Int) (j2 : Int) (k : Nat) (p : Nat → PD) (hk : k ≤ 30) (k0_1 : (r16.v n g j1 j2 k p == 0) = true) (p0_1 : r16.v n g j1 j2 k p = 0) (k0_2 : decide (r41.v0 n g j1 j2 k p < 0) = false) (p0_2 : ¬r41.v0 n g j1 j2 k p < 0) (k_ : Nat) (z_ : Nat × (List Int) × Int) (hi_ : L19a.inv n g j1 j2 k p z_.1 z_.2.1 z_.2.2) (hm_ : L19a.mu n g j1 j2 k p z_.1 z_.2.1 z_.2.2 < k_) : LoopTo Try.prog (loopN Try.f19 0) (L19a.T n g j1 j2 k p z_.1 z_.2.1 z_.2.2) (L19a.H n g j1 j2 k p z_.1 z_.2.1 z_.2.2) (L19a.E (L19a.N n g j1 j2 k p k_ z_.1 z_.2.1 z_.2.2)) (L19a.X n g j1 j2 k p (L19a.N n g j1 j2 k p k_ z_.1 z_.2.1 z_.2.2)) (L19a.XH n g j1 j2 k p (L19a.N n g j1 j2 k p k_ z_.1 z_.2.1 z_.2.2)) := by
  refine LoopTo.fuelP mix (fun (z_ : Nat × (List Int) × Int) => L19a.T n g j1 j2 k p z_.1 z_.2.1 z_.2.2) (fun (z_ : Nat × (List Int) × Int) => L19a.H n g j1 j2 k p z_.1 z_.2.1 z_.2.2) (fun (z_ : Nat × (List Int) × Int) => L19a.inv n g j1 j2 k p z_.1 z_.2.1 z_.2.2) (fun (z_ : Nat × (List Int) × Int) => L19a.mu n g j1 j2 k p z_.1 z_.2.1 z_.2.2) (fun (k_ : Nat) (z_ : Nat × (List Int) × Int) => L19a.N n g j1 j2 k p k_ z_.1 z_.2.1 z_.2.2) L19a.E (L19a.X n g j1 j2 k p) (L19a.XH n g j1 j2 k p) (others 55 [6, 7, 9, 35, 36, 37]) (others 55 [2, 3, 4]) (others 55 [6, 9]) ?_ k_ z_ hi_ hm_
  clear hm_ hi_ z_ k_
  intro k_ z_ hinv hmu
  obtain ⟨av9, al9, a37⟩ := z_
  have hinv : 0 ≤ a37 ∧ (a37 ≤ (↑((rget (r42.v k p) (r41.v0 n g j1 j2 k p).toNat).b.toNat - (rget (r42.v k p) (r41.v0 n g j1 j2 k p).toNat).a.toNat) : Int) ∨ a37 ≤ 0) ∧ (↑al9.length : Int) ≤ a37 - 0 := hinv
  have hmu : (((↑((rget (r42.v k p) (r41.v0 n g j1 j2 k p).toNat).b.toNat - (rget (r42.v k p) (r41.v0 n g j1 j2 k p).toNat).a.toNat) : Int) - a37).toNat) < k_ + 1 := hmu
  cases h1 : decide (a37 < (↑((rget (r42.v k p) (r41.v0 n g j1 j2 k p).toNat).b.toNat - (rget (r42.v k p) (r41.v0 n g j1 j2 k p).toNat).a.toNat) : Int)) with
  | true =>
    have h1p := of_decide_eq_true h1
    try have := bd_parts (by first | assumption | omega) (by first | assumption | omega)
    try have := bd_first (by first | assumption | omega) (by first | assumption | omega)
    try have := bd_failed (by first | assumption | omega) (by first | assumption | omega) (by first | assumption | omega)
    try have := bd_failed2 (by first | assumption | omega) (by first | assumption | omega) (by first | assumption | omega) (by first | assumption | omega)
    have o0 : (0 : Int) ≤ a37 := by first | assumption | omega | (simp_all; done)
    have o1 : a37 < (↑((rget (r42.v k p) (r41.v0 n g j1 j2 k p).toNat).b.toNat - (rget (r42.v k p) (r41.v0 n g j1 j2 k p).toNat).a.toNat) : Int) := by first | assumption | omega | (simp_all; done)
    cases h2 : r41.v1 n g j1 j2 k p with
    | true =>
      try have := bd_parts (by first | assumption | omega) (by first | assumption | omega)
      try have := bd_first (by first | assumption | omega) (by first | assumption | omega)
      try have := bd_failed (by first | assumption | omega) (by first | assumption | omega) (by first | assumption | omega)
      try have := bd_failed2 (by first | assumption | omega) (by first | assumption | omega) (by first | assumption | omega) (by first | assumption | omega)
      have o2 : (al9.length + (1 : Nat)) * (8 : Nat) ≤ (140737488355328 : Nat) := by first | assumption | omega | (simp only [List.length_append, List.length_cons, List.length_nil, List.length_map]; omega) | (simp_all; done)
      have o3 : al9.length = (Col.ints IntKind.i64 al9).len := by first | assumption | omega | (simp only [List.length_append, List.length_cons, List.length_nil, List.length_map]; omega) | rfl | (exact Nat.le_refl _) | (simp [Col.len]; done) | (simp_all; done)
      try have := IntWalk.i64_in (a37 + 1) (by omega)
      have o4 : (0 : Int) ≤ IntKind.i64.wrap (a37 + (1 : Int)) := by first | assumption | omega | (simp_all; done)
      have o5 : IntKind.i64.wrap (a37 + (1 : Int)) ≤ (↑((rget (r42.v k p) (r41.v0 n g j1 j2 k p).toNat).b.toNat - (rget (r42.v k p) (r41.v0 n g j1 j2 k p).toNat).a.toNat) : Int) ∨ IntKind.i64.wrap (a37 + (1 : Int)) ≤ (0 : Int) := by first | assumption | omega | (simp_all; done)
      have o6 : (↑(al9 ++ [(g ((rget (r42.v k p) (r41.v0 n g j1 j2 k p).toNat).a.toNat + a37.toNat)).hi]).length : Int) ≤ IntKind.i64.wrap (a37 + (1 : Int)) - (0 : Int) := by first | assumption | omega | (simp only [List.length_append, List.length_cons, List.length_nil, List.length_map]; omega) | (simp_all; done)
      have o7 : ((↑((rget (r42.v k p) (r41.v0 n g j1 j2 k p).toNat).b.toNat - (rget (r42.v k p) (r41.v0 n g j1 j2 k p).toNat).a.toNat) : Int) - IntKind.i64.wrap (a37 + (1 : Int))).toNat < ((↑((rget (r42.v k p) (r41.v0 n g j1 j2 k p).toNat).b.toNat - (rget (r42.v k p) (r41.v0 n g j1 j2 k p).toNat).a.toNat) : Int) - a37).toNat := by first | assumption | omega | (simp_all; done)
      exact ⟨[.b true, .b true, .app .one false], kmp (by kernel_rfl) (And.intro h1 (And.intro (And.intro o0 o1) (And.intro h2 (And.intro (And.intro (show (1 : Nat) = (1 : Nat) by first | decide | exact Int.NonNeg.mk _) (And.intro (show AppMode.one.needs 1 fun (a : Nat) => (Col.ofList [AV.int IntKind.i64 (g ((rget (r42.v k p) (r41.v0 n g j1 j2 k p).toNat).a.toNat + a37.toNat)).hi]).get a by first | exact ⟨rfl, rfl⟩ | simp [AppMode.needs]) (And.intro o2 (And.intro (rfl : av9 = av9) (And.intro (show (0 : Nat) = (0 : Nat) by first | decide | exact Int.NonNeg.mk _) o3))))) (L19a.nx n g j1 j2 k p (k_ := k_) (z_ := (av9, al9, a37)) (h_ := [AObj.dead, AObj.dead, AObj.row 1 (av9 + 1) (Col.ints IntKind.i64 (al9 ++ [(g ((rget (r42.v k p) (r41.v0 n g j1 j2 k p).toNat).a.toNat + a37.toNat)).hi])), AObj.var (AV.agg [AV.int IntKind.i64 (g ((rget (r42.v k p) (r41.v0 n g j1 j2 k p).toNat).a.toNat + a37.toNat)).lo, AV.int IntKind.i64 (g ((rget (r42.v k p) (r41.v0 n g j1 j2 k p).toNat).a.toNat + a37.toNat)).hi])]) ((av9 + 1, al9 ++ [(g ((rget (r42.v k p) (r41.v0 n g j1 j2 k p).toNat).a.toNat + a37.toNat)).hi], IntKind.i64.wrap (a37 + 1))) (And.intro o4 (And.intro o5 o6)) o7 (by first | (simp only [L19a.N, h1, h2, cond_true, cond_false]; done) | (try unfold L19a.N; try simp only [h1, cond_true, cond_false]; try simp only [h2, cond_true, cond_false]; try rfl; done)) (PopOk.popLow _ rfl rfl (by simp [L19a.T, L19a.X, L19a.H, L19a.XH]) (by simp [L19a.T, L19a.X, L19a.H, L19a.XH])))))))⟩
    | false =>
      try have := bd_parts (by first | assumption | omega) (by first | assumption | omega)
      try have := bd_first (by first | assumption | omega) (by first | assumption | omega)
      try have := bd_failed (by first | assumption | omega) (by first | assumption | omega) (by first | assumption | omega)
      try have := bd_failed2 (by first | assumption | omega) (by first | assumption | omega) (by first | assumption | omega) (by first | assumption | omega)
      have o2 : (al9.length + (1 : Nat)) * (8 : Nat) ≤ (140737488355328 : Nat) := by first | assumption | omega | (simp only [List.length_append, List.length_cons, List.length_nil, List.length_map]; omega) | (simp_all; done)
      have o3 : al9.length = (Col.ints IntKind.i64 al9).len := by first | assumption | omega | (simp only [List.length_append, List.length_cons, List.length_nil, List.length_map]; omega) | rfl | (exact Nat.le_refl _) | (simp [Col.len]; done) | (simp_all; done)
      try have := IntWalk.i64_in (a37 + 1) (by omega)
      have o4 : (0 : Int) ≤ IntKind.i64.wrap (a37 + (1 : Int)) := by first | assumption | omega | (simp_all; done)
      have o5 : IntKind.i64.wrap (a37 + (1 : Int)) ≤ (↑((rget (r42.v k p) (r41.v0 n g j1 j2 k p).toNat).b.toNat - (rget (r42.v k p) (r41.v0 n g j1 j2 k p).toNat).a.toNat) : Int) ∨ IntKind.i64.wrap (a37 + (1 : Int)) ≤ (0 : Int) := by first | assumption | omega | (simp_all; done)
      have o8 : (↑(al9 ++ [(g ((rget (r42.v k p) (r41.v0 n g j1 j2 k p).toNat).a.toNat + a37.toNat)).lo]).length : Int) ≤ IntKind.i64.wrap (a37 + (1 : Int)) - (0 : Int) := by first | assumption | omega | (simp only [List.length_append, List.length_cons, List.length_nil, List.length_map]; omega) | (simp_all; done)
      have o7 : ((↑((rget (r42.v k p) (r41.v0 n g j1 j2 k p).toNat).b.toNat - (rget (r42.v k p) (r41.v0 n g j1 j2 k p).toNat).a.toNat) : Int) - IntKind.i64.wrap (a37 + (1 : Int))).toNat < ((↑((rget (r42.v k p) (r41.v0 n g j1 j2 k p).toNat).b.toNat - (rget (r42.v k p) (r41.v0 n g j1 j2 k p).toNat).a.toNat) : Int) - a37).toNat := by first | assumption | omega | (simp_all; done)
      exact ⟨[.b true, .b false, .app .one false], kmp (by kernel_rfl) (And.intro h1 (And.intro (And.intro o0 o1) (And.intro h2 (And.intro (And.intro (show (1 : Nat) = (1 : Nat) by first | decide | exact Int.NonNeg.mk _) (And.intro (show AppMode.one.needs 1 fun (a : Nat) => (Col.ofList [AV.int IntKind.i64 (g ((rget (r42.v k p) (r41.v0 n g j1 j2 k p).toNat).a.toNat + a37.toNat)).lo]).get a by first | exact ⟨rfl, rfl⟩ | simp [AppMode.needs]) (And.intro o2 (And.intro (rfl : av9 = av9) (And.intro (show (0 : Nat) = (0 : Nat) by first | decide | exact Int.NonNeg.mk _) o3))))) (L19a.nx n g j1 j2 k p (k_ := k_) (z_ := (av9, al9, a37)) (h_ := [AObj.dead, AObj.dead, AObj.row 1 (av9 + 1) (Col.ints IntKind.i64 (al9 ++ [(g ((rget (r42.v k p) (r41.v0 n g j1 j2 k p).toNat).a.toNat + a37.toNat)).lo])), AObj.var (AV.agg [AV.int IntKind.i64 (g ((rget (r42.v k p) (r41.v0 n g j1 j2 k p).toNat).a.toNat + a37.toNat)).lo, AV.int IntKind.i64 (g ((rget (r42.v k p) (r41.v0 n g j1 j2 k p).toNat).a.toNat + a37.toNat)).hi])]) ((av9 + 1, al9 ++ [(g ((rget (r42.v k p) (r41.v0 n g j1 j2 k p).toNat).a.toNat + a37.toNat)).lo], IntKind.i64.wrap (a37 + 1))) (And.intro o4 (And.intro o5 o8)) o7 (by first | (simp only [L19a.N, h1, h2, cond_true, cond_false]; done) | (try unfold L19a.N; try simp only [h1, cond_true, cond_false]; try simp only [h2, cond_true, cond_false]; try rfl; done)) (PopOk.popLow _ rfl rfl (by simp [L19a.T, L19a.X, L19a.H, L19a.XH]) (by simp [L19a.T, L19a.X, L19a.H, L19a.XH])))))))⟩
  | false =>
    have h1p := of_decide_eq_false h1
    exact ⟨[.b false], kmp (by kernel_rfl) (And.intro h1 (L19a.en n g j1 j2 k p (k_ := k_) (z_ := (av9, al9, a37)) (.e0 (av9) (al9) : L19a.O) (by first | (simp only [L19a.N, h1, cond_true, cond_false]; done) | (try unfold L19a.N; try simp only [h1, cond_true, cond_false]; try rfl; done)) PopOk.same))⟩
theorem L19a.e0 (n : Nat) (g : Nat → PD) (hn : n ≤ 9223372036854775807) (j1 : Int) (j2 : Int) (k : Nat) (p : Nat → PD) (hk : k ≤ 30) (k0_1 : (r16.v n g j1 j2 k p == 0) = true) (p0_1 : r16.v n g j1 j2 k p = 0) (k0_2 : decide (r41.v0 n g j1 j2 k p < 0) = false) (p0_2 : ¬r41.v0 n g j1 j2 k p < 0) (av9 : Nat) (al9 : List Int) (a37 : Int) (hinv : L19a.inv n g j1 j2 k p av9 al9 a37) (a0 : Nat) (a1 : List Int) (hN : L19a.run n g j1 j2 k p av9 al9 a37 = (.e0 a0 a1 : L19a.O)) : LoopTo Try.prog (loopN Try.f19 0) (L19a.T n g j1 j2 k p av9 al9 a37) (L19a.H n g j1 j2 k p av9 al9 a37) (Exit.exit 0) (L19a.X n g j1 j2 k p (.e0 a0 a1 : L19a.O)) (L19a.XH n g j1 j2 k p (.e0 a0 a1 : L19a.O)) := by
  have h_ := L19a.spec n g hn j1 j2 k p hk k0_1 p0_1 k0_2 p0_2 ((((↑((rget (r42.v k p) (r41.v0 n g j1 j2 k p).toNat).b.toNat - (rget (r42.v k p) (r41.v0 n g j1 j2 k p).toNat).a.toNat) : Int) - a37).toNat) + 1) (av9, al9, a37) hinv (Nat.lt_succ_self _)
  unfold L19a.run at hN
  simp only [hN] at h_
  exact h_
theorem L19a.len0_1 (n : Nat) (g : Nat → PD) (j1 : Int) (j2 : Int) (k : Nat) (p : Nat → PD) : ∀ (m_ : Nat) (av9 : Nat) (al9 : List Int) (a37 : Int) (a0_ : Nat) (a1_ : List Int), L19a.N n g j1 j2 k p m_ av9 al9 a37 = (.e0 a0_ a1_ : L19a.O) → (a1_).length ≤ (al9).length + m_ := by
  intro m_
  induction m_ with
  | zero =>
    intro av9 al9 a37 a0_ a1_ h_
    simp only [L19a.N] at h_
    cases h_
    exact Nat.zero_le _
  | succ m_ ih_ =>
    intro av9 al9 a37 a0_ a1_ h_
    cases h1 : decide (a37 < (↑((rget (r42.v k p) (r41.v0 n g j1 j2 k p).toNat).b.toNat - (rget (r42.v k p) (r41.v0 n g j1 j2 k p).toNat).a.toNat) : Int)) with
    | true =>
      have h1p := of_decide_eq_true h1
      cases h2 : r41.v1 n g j1 j2 k p with
      | true =>
        (simp only [L19a.N, h1, h2, cond_true, cond_false] at h_; first | (have := ih_ _ _ _ _ _ h_; simp only [List.length_append, List.length_cons, List.length_nil] at this; omega) | (cases h_; done) | (cases h_; omega))
      | false =>
        (simp only [L19a.N, h1, h2, cond_true, cond_false] at h_; first | (have := ih_ _ _ _ _ _ h_; simp only [List.length_append, List.length_cons, List.length_nil] at this; omega) | (cases h_; done) | (cases h_; omega))
    | false =>
      have h1p := of_decide_eq_false h1
      (simp only [L19a.N, h1, cond_true, cond_false] at h_; first | (have := ih_ _ _ _ _ _ h_; simp only [List.length_append, List.length_cons, List.length_nil] at this; omega) | (cases h_; done) | (cases h_; omega))
theorem L19a.lenR0_1 (n : Nat) (g : Nat → PD) (j1 : Int) (j2 : Int) (k : Nat) (p : Nat → PD) {av9 : Nat} {al9 : List Int} {a37 : Int} {a0_ : Nat} {a1_ : List Int} (h_ : L19a.run n g j1 j2 k p av9 al9 a37 = (.e0 a0_ a1_ : L19a.O)) : (a1_).length ≤ (al9).length + ((((↑((rget (r42.v k p) (r41.v0 n g j1 j2 k p).toNat).b.toNat - (rget (r42.v k p) (r41.v0 n g j1 j2 k p).toNat).a.toNat) : Int) - a37).toNat) + 1) := L19a.len0_1 n g j1 j2 k p _ av9 al9 a37 a0_ a1_ h_

noncomputable def r19.v0 (n : Nat) (g : Nat → PD) (j1 : Int) (j2 : Int) (k : Nat) (p : Nat → PD) : Int := (bif r16.v n g j1 j2 k p == 0 then (bif decide (r41.v0 n g j1 j2 k p < 0) then 0 else (match L19a.run n g j1 j2 k p 0 [] 0 with | .e0 h3d0 h3d1 => r41.v0 n g j1 j2 k p )) else 0)
noncomputable def r19.v1 (n : Nat) (g : Nat → PD) (j1 : Int) (j2 : Int) (k : Nat) (p : Nat → PD) : List Int := (bif r16.v n g j1 j2 k p == 0 then (bif decide (r41.v0 n g j1 j2 k p < 0) then ([] : List Int) else (match L19a.run n g j1 j2 k p 0 [] 0 with | .e0 h3d0 h3d1 => h3d1 )) else ([] : List Int))
noncomputable def r19.v2 (n : Nat) (g : Nat → PD) (j1 : Int) (j2 : Int) (k : Nat) (p : Nat → PD) : Int := (bif r16.v n g j1 j2 k p == 0 then (bif decide (r41.v0 n g j1 j2 k p < 0) then 9 else (match L19a.run n g j1 j2 k p 0 [] 0 with | .e0 h3d0 h3d1 => 0 )) else r16.v n g j1 j2 k p)
noncomputable abbrev r19.h0 (n : Nat) (g : Nat → PD) (j1 : Int) (j2 : Int) (k : Nat) (p : Nat → PD) : AHeap := ([AObj.var (AV.agg [AV.sl 2 n fun (i : Nat) => AV.agg [AV.int IntKind.i64 (g i).lo, AV.int IntKind.i64 (g i).hi], AV.int IntKind.i64 j1, AV.int IntKind.i64 j2, AV.sl 2 k fun (i : Nat) => AV.agg [AV.int IntKind.i64 (p i).lo, AV.int IntKind.i64 (p i).hi]])])
theorem r19 (n : Nat) (g : Nat → PD) (hn : n ≤ 9223372036854775807) (j1 : Int) (j2 : Int) (k : Nat) (p : Nat → PD) (hk : k ≤ 30) (h : AHeap) : Ret Try.prog 19 ([rn n g j1 j2 k p]) h (AV.tup [(AV.int IntKind.i64 (r19.v0 n g j1 j2 k p)), (avInts IntKind.i64 (r19.v1 n g j1 j2 k p)), (AV.int IntKind.i64 (r19.v2 n g j1 j2 k p))]) h := by
  try have := bd_parts (by first | assumption | omega) (by first | assumption | omega)
  try have := bd_first (by first | assumption | omega) (by first | assumption | omega)
  try have := bd_failed (by first | assumption | omega) (by first | assumption | omega) (by first | assumption | omega)
  try have := bd_failed2 (by first | assumption | omega) (by first | assumption | omega) (by first | assumption | omega) (by first | assumption | omega)
  have o0 : n ≤ (9223372036854775807 : Nat) := by first | assumption | omega | (simp_all; done)
  have o1 : k ≤ (9223372036854775807 : Nat) := by first | assumption | omega | (simp_all; done)
  cases h1 : r16.v n g j1 j2 k p == 0 with
  | true =>
    have h1p := eq_of_beq h1
    try have := bd_parts (by first | assumption | omega) (by first | assumption | omega)
    try have := bd_first (by first | assumption | omega) (by first | assumption | omega)
    try have := bd_failed (by first | assumption | omega) (by first | assumption | omega) (by first | assumption | omega)
    try have := bd_failed2 (by first | assumption | omega) (by first | assumption | omega) (by first | assumption | omega) (by first | assumption | omega)
    have o2 : k ≤ (30 : Nat) := by first | assumption | omega | (simp_all; done)
    have o3 : ROk n g j1 j2 k p := by first | assumption | (apply ok_of <;> first | assumption | omega) | (simp_all; done)
    cases h2 : decide (r41.v0 n g j1 j2 k p < 0) with
    | true =>
      have h2p := of_decide_eq_true h2
      exact Ret.val (show (AV.tup [AV.int IntKind.i64 0, (avInts IntKind.i64 ([] : List Int)), AV.int IntKind.i64 9]) = (AV.tup [(AV.int IntKind.i64 (r19.v0 n g j1 j2 k p)), (avInts IntKind.i64 (r19.v1 n g j1 j2 k p)), (AV.int IntKind.i64 (r19.v2 n g j1 j2 k p))]) by first | (simp only [r19.v0, r19.v1, r19.v2, h1, h2, cond_true, cond_false]; done) | (try unfold r19.v0; try unfold r19.v1; try unfold r19.v2; try simp only [h1, cond_true, cond_false]; try simp only [h2, cond_true, cond_false]; try rfl; done) | rfl) (Ret.of_run1 mix [AV.int IntKind.i64 0, (avInts IntKind.i64 ([] : List Int)), AV.int IntKind.i64 9] Try.func19 rfl [.ret (AV.int IntKind.i64 (r16.v n g j1 j2 k p)) (r19.h0 n g j1 j2 k p), .b false, .ret (AV.tup [AV.int IntKind.i64 (r41.v0 n g j1 j2 k p), AV.bool (r41.v1 n g j1 j2 k p)]) (r19.h0 n g j1 j2 k p), .b true] (by simp) (by simp) (kmp (by kernel_rfl) (And.intro (r16 (n) (g) o0 (j1) (j2) (k) (p) o1 (r19.h0 n g j1 j2 k p)) (And.intro (show (bnot (r16.v n g j1 j2 k p == 0)) = false by rw [h1]; try rfl) (And.intro (r41 (n) (g) o0 (j1) (j2) (k) (p) o2 o3 (r19.h0 n g j1 j2 k p)) (And.intro h2 (And.intro (rfl : (AV.int IntKind.i64 0) = (AV.int IntKind.i64 0)) (And.intro (rfl : ((avInts IntKind.i64 ([] : List Int))) = ((avInts IntKind.i64 ([] : List Int)))) (And.intro (rfl : (AV.int IntKind.i64 9) = (AV.int IntKind.i64 9)) trivial)))))))) h)
    | false =>
      have h2p := of_decide_eq_false h2
      try have := bd_parts (by first | assumption | omega) (by first | assumption | omega)
      try have := bd_first (by first | assumption | omega) (by first | assumption | omega)
      try have := bd_failed (by first | assumption | omega) (by first | assumption | omega) (by first | assumption | omega)
      try have := bd_failed2 (by first | assumption | omega) (by first | assumption | omega) (by first | assumption | omega) (by first | assumption | omega)
      try have := L19a.lenR0_1 _ _ _ _ _ _ (by assumption); (try simp only [List.length_nil] at this)
      have o4 : (0 : Int) ≤ r41.v0 n g j1 j2 k p := by first | assumption | omega | (simp_all; done)
      have o5 : r41.v0 n g j1 j2 k p < (↑(r42.v k p).length : Int) := by first | assumption | omega | (simp only [List.length_append, List.length_cons, List.length_nil, List.length_map]; omega) | (simp_all; done)
      have o6 : (0 : Int) ≤ (rget (r42.v k p) (r41.v0 n g j1 j2 k p).toNat).a := by first | assumption | omega | (apply hint_a <;> first | assumption | omega) | (simp_all; done)
      have o7 : (rget (r42.v k p) (r41.v0 n g j1 j2 k p).toNat).a ≤ (rget (r42.v k p) (r41.v0 n g j1 j2 k p).toNat).b := by first | assumption | omega | (apply hint_b <;> first | assumption | omega) | (simp_all; done)
      have o8 : (rget (r42.v k p) (r41.v0 n g j1 j2 k p).toNat).b ≤ (↑n : Int) := by first | assumption | omega | (apply hint_c <;> first | assumption | omega) | (simp_all; done)
      have o9 : (r16.v n g j1 j2 k p == (0 : Int)) = true := by first | assumption | omega | (simp_all; done)
      have o10 : r16.v n g j1 j2 k p = (0 : Int) := by first | assumption | omega | (simp_all; done)
      have o11 : decide (r41.v0 n g j1 j2 k p < (0 : Int)) = false := by first | assumption | omega | (simp_all; done)
      have o12 : ¬r41.v0 n g j1 j2 k p < (0 : Int) := by first | assumption | (simp_all; done)
      have o13 : (0 : Int) ≤ (↑((rget (r42.v k p) (r41.v0 n g j1 j2 k p).toNat).b.toNat - (rget (r42.v k p) (r41.v0 n g j1 j2 k p).toNat).a.toNat) : Int) ∨ (0 : Int) ≤ (0 : Int) := by first | assumption | omega | (simp_all; done)
      cases h3 : L19a.run n g j1 j2 k p 0 [] 0 with
      | e0 h3d0 h3d1 =>
        try have := bd_parts (by first | assumption | omega) (by first | assumption | omega)
        try have := bd_first (by first | assumption | omega) (by first | assumption | omega)
        try have := bd_failed (by first | assumption | omega) (by first | assumption | omega) (by first | assumption | omega)
        try have := bd_failed2 (by first | assumption | omega) (by first | assumption | omega) (by first | assumption | omega) (by first | assumption | omega)
        try have := L19a.lenR0_1 _ _ _ _ _ _ (by assumption); (try simp only [List.length_nil] at this)
        have o14 : (0 : Nat) + h3d1.length ≤ (Col.ints IntKind.i64 h3d1).len := by first | assumption | omega | (simp only [List.length_append, List.length_cons, List.length_nil, List.length_map]; omega) | rfl | (exact Nat.le_refl _) | (simp [Col.len]; done) | (simp_all; done)
        exact Ret.of_run1 mix [(AV.int IntKind.i64 (r19.v0 n g j1 j2 k p)), (avInts IntKind.i64 (r19.v1 n g j1 j2 k p)), (AV.int IntKind.i64 (r19.v2 n g j1 j2 k p))] Try.func19 rfl [.ret (AV.int IntKind.i64 (r16.v n g j1 j2 k p)) (r19.h0 n g j1 j2 k p), .b false, .ret (AV.tup [AV.int IntKind.i64 (r41.v0 n g j1 j2 k p), AV.bool (r41.v1 n g j1 j2 k p)]) (r19.h0 n g j1 j2 k p), .b false, .ret (AV.sl 3 (r42.v k p).length fun (i : Nat) => AV.agg [AV.int IntKind.i64 (rget (r42.v k p) i).a, AV.int IntKind.i64 (rget (r42.v k p) i).b, AV.int IntKind.i64 (rget (r42.v k p) i).room]) (r19.h0 n g j1 j2 k p), .virt [0, 1] [(none, 9, 1, Col.ints IntKind.i64 [])], .loop (others 55 [6, 7, 9, 35, 36, 37]) (Exit.exit 0) (L19a.X n g j1 j2 k p (L19a.O.e0 h3d0 h3d1)) (L19a.XH n g j1 j2 k p (L19a.O.e0 h3d0 h3d1))] (by simp) (by simp) (kmp (by kernel_rfl) (And.intro (r16 (n) (g) o0 (j1) (j2) (k) (p) o1 (r19.h0 n g j1 j2 k p)) (And.intro (show (bnot (r16.v n g j1 j2 k p == 0)) = false by rw [h1]; try rfl) (And.intro (r41 (n) (g) o0 (j1) (j2) (k) (p) o2 o3 (r19.h0 n g j1 j2 k p)) (And.intro h2 (And.intro (r42 (n) (g) (j1) (j2) (k) (p) o2 (r19.h0 n g j1 j2 k p)) (And.intro (And.intro o4 o5) (And.intro (And.intro o6 (And.intro o7 o8)) (And.intro (And.intro (rfl : AV.snil = AV.snil) (And.intro (rfl : (0 : Nat) = 0) trivial)) (And.intro (L19a.e0 (n) (g) o0 (j1) (j2) (k) (p) o2 o9 o10 o11 o12 (0) ([]) (0) (And.intro (show (0 : Int) ≤ (0 : Int) by first | decide | exact Int.NonNeg.mk _) (And.intro o13 (show (0 : Int) ≤ (0 : Int) by first | decide | exact Int.NonNeg.mk _))) h3d0 h3d1 h3) (And.intro (show (AV.int IntKind.i64 (r41.v0 n g j1 j2 k p)) = ((AV.int IntKind.i64 (r19.v0 n g j1 j2 k p))) by first | (simp only [r19.v0, r19.v1, r19.v2, h1, h2, h3, cond_true, cond_false]; done) | (try unfold r19.v0; try unfold r19.v1; try unfold r19.v2; try simp only [h1, cond_true, cond_false]; try simp only [h2, cond_true, cond_false]; try simp only [h3, cond_true, cond_false]; try rfl; done) | rfl) (And.intro (And.intro (rfl : h3d0 = h3d0) (And.intro (show (1 : Nat) = (1 : Nat) by first | decide | exact Int.NonNeg.mk _) (And.intro o14 (show ((avInts IntKind.i64 h3d1)) = ((avInts IntKind.i64 (r19.v1 n g j1 j2 k p))) by first | (simp only [r19.v0, r19.v1, r19.v2, h1, h2, h3, cond_true, cond_false]; done) | (try unfold r19.v0; try unfold r19.v1; try unfold r19.v2; try simp only [h1, cond_true, cond_false]; try simp only [h2, cond_true, cond_false]; try simp only [h3, cond_true, cond_false]; try rfl; done) | rfl)))) (And.intro (show (AV.int IntKind.i64 0) = ((AV.int IntKind.i64 (r19.v2 n g j1 j2 k p))) by first | (simp only [r19.v0, r19.v1, r19.v2, h1, h2, h3, cond_true, cond_false]; done) | (try unfold r19.v0; try unfold r19.v1; try unfold r19.v2; try simp only [h1, cond_true, cond_false]; try simp only [h2, cond_true, cond_false]; try simp only [h3, cond_true, cond_false]; try rfl; done) | rfl) trivial))))))))))))) h
  | false =>
    have h1p := ne_of_beq_false h1
    exact Ret.val (show (AV.tup [AV.int IntKind.i64 0, (avInts IntKind.i64 ([] : List Int)), AV.int IntKind.i64 (r16.v n g j1 j2 k p)]) = (AV.tup [(AV.int IntKind.i64 (r19.v0 n g j1 j2 k p)), (avInts IntKind.i64 (r19.v1 n g j1 j2 k p)), (AV.int IntKind.i64 (r19.v2 n g j1 j2 k p))]) by first | (simp only [r19.v0, r19.v1, r19.v2, h1, cond_true, cond_false]; done) | (try unfold r19.v0; try unfold r19.v1; try unfold r19.v2; try simp only [h1, cond_true, cond_false]; try rfl; done) | rfl) (Ret.of_run1 mix [AV.int IntKind.i64 0, (avInts IntKind.i64 ([] : List Int)), AV.int IntKind.i64 (r16.v n g j1 j2 k p)] Try.func19 rfl [.ret (AV.int IntKind.i64 (r16.v n g j1 j2 k p)) (r19.h0 n g j1 j2 k p), .b true] (by simp) (by simp) (kmp (by kernel_rfl) (And.intro (r16 (n) (g) o0 (j1) (j2) (k) (p) o1 (r19.h0 n g j1 j2 k p)) (And.intro (show (bnot (r16.v n g j1 j2 k p == 0)) = true by rw [h1]; try rfl) (And.intro (rfl : (AV.int IntKind.i64 0) = (AV.int IntKind.i64 0)) (And.intro (rfl : ((avInts IntKind.i64 ([] : List Int))) = ((avInts IntKind.i64 ([] : List Int)))) (And.intro (rfl : (AV.int IntKind.i64 (r16.v n g j1 j2 k p)) = (AV.int IntKind.i64 (r16.v n g j1 j2 k p))) trivial)))))) h)

noncomputable def r43.v0 (p : Nat → PD) (i : Int) : Int := (bif decide (i > 0) then (p (IntKind.i64.wrap (i - 1)).toNat).lo else 0)
noncomputable def r43.v1 (p : Nat → PD) (i : Int) : Int := (p i.toNat).lo
noncomputable def r43.v2 (n : Nat) (p : Nat → PD) (i : Int) : Int := (bif decide (i > 0) then (bif (p i.toNat).lo == (↑n : Int) then IntKind.i64.wrap (IntKind.i64.wrap ((p i.toNat).lo - (p (IntKind.i64.wrap (i - 1)).toNat).lo) - 1) else IntKind.i64.wrap ((p i.toNat).lo - (p (IntKind.i64.wrap (i - 1)).toNat).lo)) else (bif (p i.toNat).lo == (↑n : Int) then IntKind.i64.wrap (IntKind.i64.wrap ((p i.toNat).lo - 0) - 1) else IntKind.i64.wrap ((p i.toNat).lo - 0)))
noncomputable def r43.v3 (p : Nat → PD) (i : Int) : Int := (bif decide (i > 0) then IntKind.i64.wrap ((p i.toNat).hi - (p (IntKind.i64.wrap (i - 1)).toNat).hi) else IntKind.i64.wrap ((p i.toNat).hi - 0))
theorem r43 (n : Nat) (g : Nat → PD) (hn : n ≤ 9223372036854775807) (j1 : Int) (j2 : Int) (k : Nat) (p : Nat → PD) (hk : k ≤ 30) (i : Int) (h0 : 0 ≤ i) (h1 : i < (↑k : Int)) (h : AHeap) : Ret Try.prog 43 ([rn n g j1 j2 k p, AV.int IntKind.i64 i]) h (AV.tup [(AV.int IntKind.i64 (r43.v0 p i)), (AV.int IntKind.i64 (r43.v1 p i)), (AV.int IntKind.i64 (r43.v2 n p i)), (AV.int IntKind.i64 (r43.v3 p i))]) h := by
  cases h1 : decide (i > 0) with
  | true =>
    have h1p := of_decide_eq_true h1
    try have := IntWalk.i64_in (i - 1) (by omega)
    have o0 : (0 : Int) ≤ IntKind.i64.wrap (i - (1 : Int)) := by first | assumption | omega | (simp_all; done)
    have o1 : IntKind.i64.wrap (i - (1 : Int)) < (↑k : Int) := by first | assumption | omega | (simp_all; done)
    have o2 : (0 : Int) ≤ i := by first | assumption | omega | (simp_all; done)
    have o3 : i < (↑k : Int) := by first | assumption | omega | (simp_all; done)
    cases h2 : (p i.toNat).lo == (↑n : Int) with
    | true =>
      have h2p := eq_of_beq h2
      exact Ret.of_run1 mix [(AV.int IntKind.i64 (r43.v0 p i)), (AV.int IntKind.i64 (r43.v1 p i)), (AV.int IntKind.i64 (r43.v2 n p i)), (AV.int IntKind.i64 (r43.v3 p i))] Try.func43 rfl [.b true, .b true] (by simp) (by simp) (kmp (by kernel_rfl) (And.intro h1 (And.intro (And.intro o0 o1) (And.intro (And.intro o0 o1) (And.intro (And.intro o2 o3) (And.intro h2 (And.intro (And.intro o2 o3) (And.intro (show (AV.int IntKind.i64 (p (IntKind.i64.wrap (i - 1)).toNat).lo) = ((AV.int IntKind.i64 (r43.v0 p i))) by first | (simp only [r43.v0, r43.v1, r43.v2, r43.v3, h1, h2, cond_true, cond_false]; done) | (try unfold r43.v0; try unfold r43.v1; try unfold r43.v2; try unfold r43.v3; try simp only [h1, cond_true, cond_false]; try simp only [h2, cond_true, cond_false]; try rfl; done) | rfl) (And.intro (show (AV.int IntKind.i64 (p i.toNat).lo) = ((AV.int IntKind.i64 (r43.v1 p i))) by first | (simp only [r43.v0, r43.v1, r43.v2, r43.v3, h1, h2, cond_true, cond_false]; done) | (try unfold r43.v0; try unfold r43.v1; try unfold r43.v2; try unfold r43.v3; try simp only [h1, cond_true, cond_false]; try simp only [h2, cond_true, cond_false]; try rfl; done) | rfl) (And.intro (show (AV.int IntKind.i64 (IntKind.i64.wrap (IntKind.i64.wrap ((p i.toNat).lo - (p (IntKind.i64.wrap (i - 1)).toNat).lo) - 1))) = ((AV.int IntKind.i64 (r43.v2 n p i))) by first | (simp only [r43.v0, r43.v1, r43.v2, r43.v3, h1, h2, cond_true, cond_false]; done) | (try unfold r43.v0; try unfold r43.v1; try unfold r43.v2; try unfold r43.v3; try simp only [h1, cond_true, cond_false]; try simp only [h2, cond_true, cond_false]; try rfl; done) | rfl) (And.intro (show (AV.int IntKind.i64 (IntKind.i64.wrap ((p i.toNat).hi - (p (IntKind.i64.wrap (i - 1)).toNat).hi))) = ((AV.int IntKind.i64 (r43.v3 p i))) by first | (simp only [r43.v0, r43.v1, r43.v2, r43.v3, h1, h2, cond_true, cond_false]; done) | (try unfold r43.v0; try unfold r43.v1; try unfold r43.v2; try unfold r43.v3; try simp only [h1, cond_true, cond_false]; try simp only [h2, cond_true, cond_false]; try rfl; done) | rfl) trivial))))))))))) h
    | false =>
      have h2p := ne_of_beq_false h2
      exact Ret.of_run1 mix [(AV.int IntKind.i64 (r43.v0 p i)), (AV.int IntKind.i64 (r43.v1 p i)), (AV.int IntKind.i64 (r43.v2 n p i)), (AV.int IntKind.i64 (r43.v3 p i))] Try.func43 rfl [.b true, .b false] (by simp) (by simp) (kmp (by kernel_rfl) (And.intro h1 (And.intro (And.intro o0 o1) (And.intro (And.intro o0 o1) (And.intro (And.intro o2 o3) (And.intro h2 (And.intro (And.intro o2 o3) (And.intro (show (AV.int IntKind.i64 (p (IntKind.i64.wrap (i - 1)).toNat).lo) = ((AV.int IntKind.i64 (r43.v0 p i))) by first | (simp only [r43.v0, r43.v1, r43.v2, r43.v3, h1, h2, cond_true, cond_false]; done) | (try unfold r43.v0; try unfold r43.v1; try unfold r43.v2; try unfold r43.v3; try simp only [h1, cond_true, cond_false]; try simp only [h2, cond_true, cond_false]; try rfl; done) | rfl) (And.intro (show (AV.int IntKind.i64 (p i.toNat).lo) = ((AV.int IntKind.i64 (r43.v1 p i))) by first | (simp only [r43.v0, r43.v1, r43.v2, r43.v3, h1, h2, cond_true, cond_false]; done) | (try unfold r43.v0; try unfold r43.v1; try unfold r43.v2; try unfold r43.v3; try simp only [h1, cond_true, cond_false]; try simp only [h2, cond_true, cond_false]; try rfl; done) | rfl) (And.intro (show (AV.int IntKind.i64 (IntKind.i64.wrap ((p i.toNat).lo - (p (IntKind.i64.wrap (i - 1)).toNat).lo))) = ((AV.int IntKind.i64 (r43.v2 n p i))) by first | (simp only [r43.v0, r43.v1, r43.v2, r43.v3, h1, h2, cond_true, cond_false]; done) | (try unfold r43.v0; try unfold r43.v1; try unfold r43.v2; try unfold r43.v3; try simp only [h1, cond_true, cond_false]; try simp only [h2, cond_true, cond_false]; try rfl; done) | rfl) (And.intro (show (AV.int IntKind.i64 (IntKind.i64.wrap ((p i.toNat).hi - (p (IntKind.i64.wrap (i - 1)).toNat).hi))) = ((AV.int IntKind.i64 (r43.v3 p i))) by first | (simp only [r43.v0, r43.v1, r43.v2, r43.v3, h1, h2, cond_true, cond_false]; done) | (try unfold r43.v0; try unfold r43.v1; try unfold r43.v2; try unfold r43.v3; try simp only [h1, cond_true, cond_false]; try simp only [h2, cond_true, cond_false]; try rfl; done) | rfl) trivial))))))))))) h
  | false =>
    have h1p := of_decide_eq_false h1
    have o2 : (0 : Int) ≤ i := by first | assumption | omega | (simp_all; done)
    have o3 : i < (↑k : Int) := by first | assumption | omega | (simp_all; done)
    cases h2 : (p i.toNat).lo == (↑n : Int) with
    | true =>
      have h2p := eq_of_beq h2
      exact Ret.of_run1 mix [(AV.int IntKind.i64 (r43.v0 p i)), (AV.int IntKind.i64 (r43.v1 p i)), (AV.int IntKind.i64 (r43.v2 n p i)), (AV.int IntKind.i64 (r43.v3 p i))] Try.func43 rfl [.b false, .b true] (by simp) (by simp) (kmp (by kernel_rfl) (And.intro h1 (And.intro (And.intro o2 o3) (And.intro h2 (And.intro (And.intro o2 o3) (And.intro (show (AV.int IntKind.i64 0) = ((AV.int IntKind.i64 (r43.v0 p i))) by first | (simp only [r43.v0, r43.v1, r43.v2, r43.v3, h1, h2, cond_true, cond_false]; done) | (try unfold r43.v0; try unfold r43.v1; try unfold r43.v2; try unfold r43.v3; try simp only [h1, cond_true, cond_false]; try simp only [h2, cond_true, cond_false]; try rfl; done) | rfl) (And.intro (show (AV.int IntKind.i64 (p i.toNat).lo) = ((AV.int IntKind.i64 (r43.v1 p i))) by first | (simp only [r43.v0, r43.v1, r43.v2, r43.v3, h1, h2, cond_true, cond_false]; done) | (try unfold r43.v0; try unfold r43.v1; try unfold r43.v2; try unfold r43.v3; try simp only [h1, cond_true, cond_false]; try simp only [h2, cond_true, cond_false]; try rfl; done) | rfl) (And.intro (show (AV.int IntKind.i64 (IntKind.i64.wrap (IntKind.i64.wrap ((p i.toNat).lo - 0) - 1))) = ((AV.int IntKind.i64 (r43.v2 n p i))) by first | (simp only [r43.v0, r43.v1, r43.v2, r43.v3, h1, h2, cond_true, cond_false]; done) | (try unfold r43.v0; try unfold r43.v1; try unfold r43.v2; try unfold r43.v3; try simp only [h1, cond_true, cond_false]; try simp only [h2, cond_true, cond_false]; try rfl; done) | rfl) (And.intro (show (AV.int IntKind.i64 (IntKind.i64.wrap ((p i.toNat).hi - 0))) = ((AV.int IntKind.i64 (r43.v3 p i))) by first | (simp only [r43.v0, r43.v1, r43.v2, r43.v3, h1, h2, cond_true, cond_false]; done) | (try unfold r43.v0; try unfold r43.v1; try unfold r43.v2; try unfold r43.v3; try simp only [h1, cond_true, cond_false]; try simp only [h2, cond_true, cond_false]; try rfl; done) | rfl) trivial))))))))) h
    | false =>
      have h2p := ne_of_beq_false h2
      exact Ret.of_run1 mix [(AV.int IntKind.i64 (r43.v0 p i)), (AV.int IntKind.i64 (r43.v1 p i)), (AV.int IntKind.i64 (r43.v2 n p i)), (AV.int IntKind.i64 (r43.v3 p i))] Try.func43 rfl [.b false, .b false] (by simp) (by simp) (kmp (by kernel_rfl) (And.intro h1 (And.intro (And.intro o2 o3) (And.intro h2 (And.intro (And.intro o2 o3) (And.intro (show (AV.int IntKind.i64 0) = ((AV.int IntKind.i64 (r43.v0 p i))) by first | (simp only [r43.v0, r43.v1, r43.v2, r43.v3, h1, h2, cond_true, cond_false]; done) | (try unfold r43.v0; try unfold r43.v1; try unfold r43.v2; try unfold r43.v3; try simp only [h1, cond_true, cond_false]; try simp only [h2, cond_true, cond_false]; try rfl; done) | rfl) (And.intro (show (AV.int IntKind.i64 (p i.toNat).lo) = ((AV.int IntKind.i64 (r43.v1 p i))) by first | (simp only [r43.v0, r43.v1, r43.v2, r43.v3, h1, h2, cond_true, cond_false]; done) | (try unfold r43.v0; try unfold r43.v1; try unfold r43.v2; try unfold r43.v3; try simp only [h1, cond_true, cond_false]; try simp only [h2, cond_true, cond_false]; try rfl; done) | rfl) (And.intro (show (AV.int IntKind.i64 (IntKind.i64.wrap ((p i.toNat).lo - 0))) = ((AV.int IntKind.i64 (r43.v2 n p i))) by first | (simp only [r43.v0, r43.v1, r43.v2, r43.v3, h1, h2, cond_true, cond_false]; done) | (try unfold r43.v0; try unfold r43.v1; try unfold r43.v2; try unfold r43.v3; try simp only [h1, cond_true, cond_false]; try simp only [h2, cond_true, cond_false]; try rfl; done) | rfl) (And.intro (show (AV.int IntKind.i64 (IntKind.i64.wrap ((p i.toNat).hi - 0))) = ((AV.int IntKind.i64 (r43.v3 p i))) by first | (simp only [r43.v0, r43.v1, r43.v2, r43.v3, h1, h2, cond_true, cond_false]; done) | (try unfold r43.v0; try unfold r43.v1; try unfold r43.v2; try unfold r43.v3; try simp only [h1, cond_true, cond_false]; try simp only [h2, cond_true, cond_false]; try rfl; done) | rfl) trivial))))))))) h

inductive L44a.O where
  | e0 (a0 : Int) (a1 : Int)
noncomputable def L44a.T (n : Nat) (g : Nat → PD) (j1 : Int) (j2 : Int) (k : Nat) (p : Nat → PD) (u : Int) (w : Int) (a8 : Int) (a9 : Int) (a10 : Int) : List AV := mkT 35 [(2, AV.int IntKind.i64 w), (3, AV.ptr 0 1 4 0 0), (8, AV.int IntKind.i64 a8), (9, AV.int IntKind.i64 a9), (10, AV.int IntKind.i64 a10)]
noncomputable def L44a.H (n : Nat) (g : Nat → PD) (j1 : Int) (j2 : Int) (k : Nat) (p : Nat → PD) (u : Int) (w : Int) (a8 : Int) (a9 : Int) (a10 : Int) : AHeap := [AObj.var (AV.agg [AV.sl 2 n fun (i : Nat) => AV.agg [AV.int IntKind.i64 (g i).lo, AV.int IntKind.i64 (g i).hi], AV.int IntKind.i64 j1, AV.int IntKind.i64 j2, AV.sl 2 k fun (i : Nat) => AV.agg [AV.int IntKind.i64 (p i).lo, AV.int IntKind.i64 (p i).hi]])]
def L44a.inv (n : Nat) (g : Nat → PD) (j1 : Int) (j2 : Int) (k : Nat) (p : Nat → PD) (u : Int) (w : Int) (a8 : Int) (a9 : Int) (a10 : Int) : Prop := 0 ≤ a10 ∧ a10 ≤ w
noncomputable def L44a.mu (n : Nat) (g : Nat → PD) (j1 : Int) (j2 : Int) (k : Nat) (p : Nat → PD) (u : Int) (w : Int) (a8 : Int) (a9 : Int) (a10 : Int) : Nat := (w - a10).toNat
noncomputable def L44a.E : L44a.O → Exit
  | .e0 a0 a1 => Exit.exit 0
noncomputable def L44a.X (n : Nat) (g : Nat → PD) (j1 : Int) (j2 : Int) (k : Nat) (p : Nat → PD) (u : Int) (w : Int) : L44a.O → List AV
  | .e0 a0 a1 => mkT 35 [(8, (AV.int IntKind.i64 a0)), (9, (AV.int IntKind.i64 a1))]
noncomputable def L44a.XH (n : Nat) (g : Nat → PD) (j1 : Int) (j2 : Int) (k : Nat) (p : Nat → PD) (u : Int) (w : Int) : L44a.O → AHeap
  | .e0 a0 a1 => ([AObj.var (AV.agg [AV.sl 2 n fun (i : Nat) => AV.agg [AV.int IntKind.i64 (g i).lo, AV.int IntKind.i64 (g i).hi], AV.int IntKind.i64 j1, AV.int IntKind.i64 j2, AV.sl 2 k fun (i : Nat) => AV.agg [AV.int IntKind.i64 (p i).lo, AV.int IntKind.i64 (p i).hi]])])
noncomputable def L44a.N (g : Nat → PD) (w : Int) : Nat → Int → Int → Int → L44a.O
  | 0, _, _, _ => .e0 default default
  | k_ + 1, a8, a9, a10 => (bif decide (a10 < w) then (L44a.N g w k_ (IntKind.i64.wrap (a8 + (g a10.toNat).lo)) (IntKind.i64.wrap (a9 + (g a10.toNat).hi)) (IntKind.i64.wrap (a10 + 1))) else (.e0 (a8) (a9)))
noncomputable def L44a.run (g : Nat → PD) (w : Int) (a8 : Int) (a9 : Int) (a10 : Int) : L44a.O := L44a.N g w (((w - a10).toNat) + 1) a8 a9 a10
def L44a.Next (n : Nat) (g : Nat → PD) (j1 : Int) (j2 : Int) (k : Nat) (p : Nat → PD) (u : Int) (w : Int) (k_ : Nat) (z_ : Int × Int × Int) (T_ : List AV) (h_ : AHeap) : Prop := LNextP (fun (z_ : Int × Int × Int) => L44a.T n g j1 j2 k p u w z_.1 z_.2.1 z_.2.2) (fun (z_ : Int × Int × Int) => L44a.H n g j1 j2 k p u w z_.1 z_.2.1 z_.2.2) (fun (z_ : Int × Int × Int) => L44a.inv n g j1 j2 k p u w z_.1 z_.2.1 z_.2.2) (fun (z_ : Int × Int × Int) => L44a.mu n g j1 j2 k p u w z_.1 z_.2.1 z_.2.2) (fun (k_ : Nat) (z_ : Int × Int × Int) => L44a.N g w k_ z_.1 z_.2.1 z_.2.2) k_ z_ T_ h_
def L44a.End (n : Nat) (g : Nat → PD) (j1 : Int) (j2 : Int) (k : Nat) (p : Nat → PD) (u : Int) (w : Int) (k_ : Nat) (z_ : Int × Int × Int) (e_ : Exit) (T_ : List AV) (h_ : AHeap) : Prop := LEndP (fun (z_ : Int × Int × Int) => L44a.H n g j1 j2 k p u w z_.1 z_.2.1 z_.2.2) (fun (k_ : Nat) (z_ : Int × Int × Int) => L44a.N g w k_ z_.1 z_.2.1 z_.2.2) L44a.E (L44a.X n g j1 j2 k p u w) (L44a.XH n g j1 j2 k p u w) k_ z_ e_ T_ h_
theorem L44a.nx (n : Nat) (g : Nat → PD) (j1 : Int) (j2 : Int) (k : Nat) (p : Nat → PD) (u : Int) (w : Int) {k_ : Nat} {z_ : Int × Int × Int} {h_ : AHeap} (s_ : Int × Int × Int) (h1 : L44a.inv n g j1 j2 k p u w s_.1 s_.2.1 s_.2.2) (h2 : L44a.mu n g j1 j2 k p u w s_.1 s_.2.1 s_.2.2 < L44a.mu n g j1 j2 k p u w z_.1 z_.2.1 z_.2.2) (h3 : L44a.N g w k_ s_.1 s_.2.1 s_.2.2 = L44a.N g w (k_ + 1) z_.1 z_.2.1 z_.2.2) (h4 : PopOk (L44a.H n g j1 j2 k p u w z_.1 z_.2.1 z_.2.2) h_ (L44a.T n g j1 j2 k p u w s_.1 s_.2.1 s_.2.2) (L44a.H n g j1 j2 k p u w s_.1 s_.2.1 s_.2.2)) : LNextP (fun (z_ : Int × Int × Int) => L44a.T n g j1 j2 k p u w z_.1 z_.2.1 z_.2.2) (fun (z_ : Int × Int × Int) => L44a.H n g j1 j2 k p u w z_.1 z_.2.1 z_.2.2) (fun (z_ : Int × Int × Int) => L44a.inv n g j1 j2 k p u w z_.1 z_.2.1 z_.2.2) (fun (z_ : Int × Int × Int) => L44a.mu n g j1 j2 k p u w z_.1 z_.2.1 z_.2.2) (fun (k_ : Nat) (z_ : Int × Int × Int) => L44a.N g w k_ z_.1 z_.2.1 z_.2.2) k_ z_ (L44a.T n g j1 j2 k p u w s_.1 s_.2.1 s_.2.2) h_ := LNextP.mk (Tm := (fun (z_ : Int × Int × Int) => L44a.T n g j1 j2 k p u w z_.1 z_.2.1 z_.2.2)) (Hp := (fun (z_ : Int × Int × Int) => L44a.H n g j1 j2 k p u w z_.1 z_.2.1 z_.2.2)) (inv := (fun (z_ : Int × Int × Int) => L44a.inv n g j1 j2 k p u w z_.1 z_.2.1 z_.2.2)) (mu := (fun (z_ : Int × Int × Int) => L44a.mu n g j1 j2 k p u w z_.1 z_.2.1 z_.2.2)) (l := (fun (k_ : Nat) (z_ : Int × Int × Int) => L44a.N g w k_ z_.1 z_.2.1 z_.2.2)) s_ h1 h2 h3 h4
theorem L44a.en (n : Nat) (g : Nat → PD) (j1 : Int) (j2 : Int) (k : Nat) (p : Nat → PD) (u : Int) (w : Int) {k_ : Nat} {z_ : Int × Int × Int} {h_ : AHeap} (o_ : L44a.O) (h3 : L44a.N g w (k_ + 1) z_.1 z_.2.1 z_.2.2 = o_) (h4 : PopOk (L44a.H n g j1 j2 k p u w z_.1 z_.2.1 z_.2.2) h_ (L44a.X n g j1 j2 k p u w o_) (L44a.XH n g j1 j2 k p u w o_)) : LEndP (fun (z_ : Int × Int × Int) => L44a.H n g j1 j2 k p u w z_.1 z_.2.1 z_.2.2) (fun (k_ : Nat) (z_ : Int × Int × Int) => L44a.N g w k_ z_.1 z_.2.1 z_.2.2) L44a.E (L44a.X n g j1 j2 k p u w) (L44a.XH n g j1 j2 k p u w) k_ z_ (L44a.E o_) (L44a.X n g j1 j2 k p u w o_) h_ := LEndP.mk (Hp := (fun (z_ : Int × Int × Int) => L44a.H n g j1 j2 k p u w z_.1 z_.2.1 z_.2.2)) (l := (fun (k_ : Nat) (z_ : Int × Int × Int) => L44a.N g w k_ z_.1 z_.2.1 z_.2.2)) (oE := L44a.E) (oT := L44a.X n g j1 j2 k p u w) (oH := L44a.XH n g j1 j2 k p u w) o_ h3 h4
theorem L44a.spec (n : Nat) (g : Nat → PD) (hn : n ≤ 9223372036854775807) (j1 : Int) (j2 : Int) (k : Nat) (p : Nat → PD) (hk : k ≤ 30) (u : Int) (w : Int) (h0 : 0 ≤ u) (h1 : u ≤ w) (h2 : w ≤ (↑n : Int)) (h3 : w ≤ 9223372036854775807) (k_ : Nat) (z_ : Int × Int × Int) (hi_ : L44a.inv n g j1 j2 k p u w z_.1 z_.2.1 z_.2.2) (hm_ : L44a.mu n g j1 j2 k p u w z_.1 z_.2.1 z_.2.2 < k_) : LoopTo Try.prog (loopN Try.f44 0) (L44a.T n g j1 j2 k p u w z_.1 z_.2.1 z_.2.2) (L44a.H n g j1 j2 k p u w z_.1 z_.2.1 z_.2.2) (L44a.E (L44a.N g w k_ z_.1 z_.2.1 z_.2.2)) (L44a.X n g j1 j2 k p u w (L44a.N g w k_ z_.1 z_.2.1 z_.2.2)) (L44a.XH n g j1 j2 k p u w (L44a.N g w k_ z_.1 z_.2.1 z_.2.2)) := by
  refine LoopTo.fuelP mix (fun (z_ : Int × Int × Int) => L44a.T n g j1 j2 k p u w z_.1 z_.2.1 z_.2.2) (fun (z_ : Int × Int × Int) => L44a.H n g j1 j2 k p u w z_.1 z_.2.1 z_.2.2) (fun (z_ : Int × Int × Int) => L44a.inv n g j1 j2 k p u w z_.1 z_.2.1 z_.2.2) (fun (z_ : Int × Int × Int) => L44a.mu n g j1 j2 k p u w z_.1 z_.2.1 z_.2.2) (fun (k_ : Nat) (z_ : Int × Int × Int) => L44a.N g w k_ z_.1 z_.2.1 z_.2.2) L44a.E (L44a.X n g j1 j2 k p u w) (L44a.XH n g j1 j2 k p u w) (others 35 [2, 3, 8, 9, 10]) (others 35 [6, 7]) (others 35 [8, 9]) ?_ k_ z_ hi_ hm_
  clear hm_ hi_ z_ k_
  intro k_ z_ hinv hmu
  obtain ⟨a8, a9, a10⟩ := z_
  have hinv : 0 ≤ a10 ∧ a10 ≤ w := hinv
  have hmu : ((w - a10).toNat) < k_ + 1 := hmu
  cases h1 : decide (a10 < w) with
  | true =>
    have h1p := of_decide_eq_true h1
    have o0 : (0 : Int) ≤ a10 := by first | assumption | omega | (simp_all; done)
    have o1 : a10 < (↑n : Int) := by first | assumption | omega | (simp_all; done)
    try have := IntWalk.i64_in (a10 + 1) (by omega)
    have o2 : (0 : Int) ≤ IntKind.i64.wrap (a10 + (1 : Int)) := by first | assumption | omega | (simp_all; done)
    have o3 : IntKind.i64.wrap (a10 + (1 : Int)) ≤ w := by first | assumption | omega | (simp_all; done)
    have o4 : (w - IntKind.i64.wrap (a10 + (1 : Int))).toNat < (w - a10).toNat := by first | assumption | omega | (simp_all; done)
    exact ⟨[.b true], kmp (by kernel_rfl) (And.intro h1 (And.intro (And.intro o0 o1) (And.intro (And.intro o0 o1) (L44a.nx n g j1 j2 k p u w (k_ := k_) (z_ := (a8, a9, a10)) ((IntKind.i64.wrap (a8 + (g a10.toNat).lo), IntKind.i64.wrap (a9 + (g a10.toNat).hi), IntKind.i64.wrap (a10 + 1))) (And.intro o2 o3) o4 (by first | (simp only [L44a.N, h1, cond_true, cond_false]; done) | (try unfold L44a.N; try simp only [h1, cond_true, cond_false]; try rfl; done)) PopOk.same))))⟩
  | false =>
    have h1p := of_decide_eq_false h1
    exact ⟨[.b false], kmp (by kernel_rfl) (And.intro h1 (L44a.en n g j1 j2 k p u w (k_ := k_) (z_ := (a8, a9, a10)) (.e0 (a8) (a9) : L44a.O) (by first | (simp only [L44a.N, h1, cond_true, cond_false]; done) | (try unfold L44a.N; try simp only [h1, cond_true, cond_false]; try rfl; done)) PopOk.same))⟩
theorem L44a.e0 (n : Nat) (g : Nat → PD) (hn : n ≤ 9223372036854775807) (j1 : Int) (j2 : Int) (k : Nat) (p : Nat → PD) (hk : k ≤ 30) (u : Int) (w : Int) (h0 : 0 ≤ u) (h1 : u ≤ w) (h2 : w ≤ (↑n : Int)) (h3 : w ≤ 9223372036854775807) (a8 : Int) (a9 : Int) (a10 : Int) (hinv : L44a.inv n g j1 j2 k p u w a8 a9 a10) (a0 : Int) (a1 : Int) (hN : L44a.run g w a8 a9 a10 = (.e0 a0 a1 : L44a.O)) : LoopTo Try.prog (loopN Try.f44 0) (L44a.T n g j1 j2 k p u w a8 a9 a10) (L44a.H n g j1 j2 k p u w a8 a9 a10) (Exit.exit 0) (L44a.X n g j1 j2 k p u w (.e0 a0 a1 : L44a.O)) (L44a.XH n g j1 j2 k p u w (.e0 a0 a1 : L44a.O)) := by
  have h_ := L44a.spec n g hn j1 j2 k p hk u w h0 h1 h2 h3 (((w - a10).toNat) + 1) (a8, a9, a10) hinv (Nat.lt_succ_self _)
  unfold L44a.run at hN
  simp only [hN] at h_
  exact h_

noncomputable def r44.v0 (g : Nat → PD) (u : Int) (w : Int) : Int := (match L44a.run g w 0 0 u with | .e0 h1d0 h1d1 => h1d0 )
noncomputable def r44.v1 (g : Nat → PD) (u : Int) (w : Int) : Int := (match L44a.run g w 0 0 u with | .e0 h1d0 h1d1 => h1d1 )
theorem r44 (n : Nat) (g : Nat → PD) (hn : n ≤ 9223372036854775807) (j1 : Int) (j2 : Int) (k : Nat) (p : Nat → PD) (hk : k ≤ 30) (u : Int) (w : Int) (h0 : 0 ≤ u) (h1 : u ≤ w) (h2 : w ≤ (↑n : Int)) (h3 : w ≤ 9223372036854775807) (h : AHeap) : Ret Try.prog 44 ([rn n g j1 j2 k p, AV.int IntKind.i64 u, AV.int IntKind.i64 w]) h (AV.tup [(AV.int IntKind.i64 (r44.v0 g u w)), (AV.int IntKind.i64 (r44.v1 g u w))]) h := by
  have o0 : n ≤ (9223372036854775807 : Nat) := by first | assumption | omega | (simp_all; done)
  have o1 : k ≤ (30 : Nat) := by first | assumption | omega | (simp_all; done)
  have o2 : (0 : Int) ≤ u := by first | assumption | omega | (simp_all; done)
  have o3 : u ≤ w := by first | assumption | omega | (simp_all; done)
  have o4 : w ≤ (↑n : Int) := by first | assumption | omega | (simp_all; done)
  have o5 : w ≤ (9223372036854775807 : Int) := by first | assumption | omega | (simp_all; done)
  cases h1 : L44a.run g w 0 0 u with
  | e0 h1d0 h1d1 =>
    exact Ret.of_run1 mix [(AV.int IntKind.i64 (r44.v0 g u w)), (AV.int IntKind.i64 (r44.v1 g u w))] Try.func44 rfl [.loop (others 35 [2, 3, 8, 9, 10]) (Exit.exit 0) (L44a.X n g j1 j2 k p u w (L44a.O.e0 h1d0 h1d1)) (L44a.XH n g j1 j2 k p u w (L44a.O.e0 h1d0 h1d1))] (by simp) (by simp) (kmp (by kernel_rfl) (And.intro (L44a.e0 (n) (g) o0 (j1) (j2) (k) (p) o1 (u) (w) o2 o3 o4 o5 (0) (0) (u) (And.intro o2 o3) h1d0 h1d1 h1) (And.intro (show (AV.int IntKind.i64 h1d0) = ((AV.int IntKind.i64 (r44.v0 g u w))) by first | (simp only [r44.v0, r44.v1, h1, cond_true, cond_false]; done) | (try unfold r44.v0; try unfold r44.v1; try simp only [h1, cond_true, cond_false]; try rfl; done) | rfl) (And.intro (show (AV.int IntKind.i64 h1d1) = ((AV.int IntKind.i64 (r44.v1 g u w))) by first | (simp only [r44.v0, r44.v1, h1, cond_true, cond_false]; done) | (try unfold r44.v0; try unfold r44.v1; try simp only [h1, cond_true, cond_false]; try rfl; done) | rfl) trivial)))) h

end Go.Proofs.Ytjdakdjgkpfjkaa

/- Plain laws: the reference's parts and sums; the lengths of a part that fails. Conditions: none. -/
open Go
namespace Go.Proofs.Ytjdakdjgkpfjkaa
set_option linter.unusedVariables false
set_option linter.unusedSimpArgs false
variable {n k : Nat} {g p : Nat → PD} {m j1 j2 : Int}

theorem r43_eq (h : ROk n g j1 j2 k p) (hk : k ≤ 30) {i : Nat} (hi : i < k) :
    r43.v0 p i = pa p i ∧ r43.v1 p i = pb p i ∧ r43.v2 n p i = jn n (pa p i) (pb p i) ∧ r43.v3 p i = prm p i := by
  have hb := pb_eq h.pl hi
  have hab := pab h.pl hi
  have ha := pa_eq h.pl hi
  have h1 := h.pl.at1 i hi
  have h2 := h.pl.at2 i hi
  have hn := h.le
  have hb' : (p i).lo = pb p i := hb
  unfold r43.v0 r43.v1 r43.v2 r43.v3
  simp only [Int.toNat_natCast, hb']
  have heq : ∀ x : Int, (bif ((pb p i : Nat) : Int) == (n : Int) then x - 1 else x) = x - (if pb p i = n then 1 else 0) := fun x => by
    by_cases e : pb p i = n
    · rw [if_pos e, e]; simp
    · rw [if_neg e, show (((pb p i : Nat) : Int) == (n : Int)) = false by simpa using fun e' => e (by omega)]; simp
  by_cases e : i = 0
  · subst e
    have e0 : pa p 0 = 0 := rfl
    have ep : prm p 0 = (p 0).hi := by unfold prm; simp
    rw [decide_eq_false (by omega)]
    simp only [cond_false, e0, ep]
    refine ⟨rfl, trivial, ?_, by rw [i64_small (by omega)]; omega⟩
    rw [i64_small (x := (pb p 0 : Int) - 0) (by omega), i64_small (x := (pb p 0 : Int) - 0 - 1) (by omega), heq]
    unfold jn; simp
  · have hlt : i - 1 < k := by omega
    have h3 := h.pl.lo (i - 1) hlt
    have h5 := h.pl.at1 (i - 1) hlt
    have h6 := h.pl.at2 (i - 1) hlt
    have ea : (p (i - 1)).lo = pa p i := by rw [← ha]; unfold ptB; simp [e]
    have ep : prm p i = (p i).hi - (p (i - 1)).hi := by unfold prm; simp [e]
    rw [decide_eq_true (show (i : Int) > 0 by omega), pred_idx (n := k) (by omega) hi (by omega)]
    simp only [cond_true, ea, ep]
    refine ⟨trivial, trivial, ?_, by rw [i64_small (by omega)]⟩
    rw [i64_small (x := (pb p i : Int) - (pa p i : Nat)) (by omega), i64_small (x := (pb p i : Int) - (pa p i : Nat) - 1) (by omega), heq]
    unfold jn; rfl

theorem L44_run {w : Nat} (hw : w ≤ 512) (hg : ∀ i, i < w → 0 ≤ (g i).lo ∧ (g i).lo ≤ 1000000 ∧ 0 ≤ (g i).hi ∧ (g i).hi ≤ 1000000) (u : Nat) :
    ∀ m c, u + c ≤ w → w - (u + c) < m → L44a.N g w m (sumB (fun i => (g i).lo) u c) (sumB (fun i => (g i).hi) u c) ((u + c : Nat) : Int) = .e0 (sumB (fun i => (g i).lo) u (w - u)) (sumB (fun i => (g i).hi) u (w - u)) := by
  intro m
  induction m with
  | zero => intro c _ h; omega
  | succ m ih =>
    intro c hc hm
    simp only [L44a.N, Int.toNat_natCast]
    by_cases h : u + c < w
    · rw [decide_eq_true (show ((u + c : Nat) : Int) < (w : Int) by omega), wrap_succ (n := w) (by omega) h]
      simp only [cond_true]
      have b1 := sumB_bd (f := fun i => (g i).lo) (u := u) (b := 1000000) c fun i a b => ⟨(hg i (by omega)).1, (hg i (by omega)).2.1⟩
      have b2 := sumB_bd (f := fun i => (g i).hi) (u := u) (b := 1000000) c fun i a b => ⟨(hg i (by omega)).2.2.1, (hg i (by omega)).2.2.2⟩
      have b3 := hg (u + c) h
      rw [i64_small (by omega), i64_small (by omega)]
      exact ih (c + 1) h (by omega)
    · obtain rfl : w = u + c := by omega
      rw [decide_eq_false (by omega), Nat.add_sub_cancel_left]; rfl

theorem r44_eq (h : ROk n g j1 j2 k p) {u w : Nat} (hu : u ≤ w) (hw : w ≤ n) : r44.v0 g u w = sLo g u w ∧ r44.v1 g u w = sHi g u w := by
  have hn := h.le
  have e := L44_run (g := g) (w := w) (by omega) (fun i hi => by
    have := h.l1 i (by omega); have := h.l2 i (by omega); have := h.l3 i (by omega); omega) u (w - u + 1) 0 (by omega) (by omega)
  have e' : L44a.run g w 0 0 u = .e0 (sumB (fun i => (g i).lo) u (w - u)) (sumB (fun i => (g i).hi) u (w - u)) := by
    simpa [L44a.run, L44a.mu, sumB] using e
  unfold r44.v0 r44.v1 sLo sHi
  rw [e']
  exact ⟨rfl, rfl⟩

theorem hint43 (h : ROk n g j1 j2 k p) (hk : k ≤ 30) {i : Int} (h0 : 0 ≤ i) (h1 : i < k) : 0 ≤ r43.v0 p i ∧ r43.v0 p i ≤ r43.v1 p i ∧ r43.v1 p i ≤ n ∧ r43.v1 p i ≤ 512 := by
  obtain ⟨j, rfl⟩ := Int.eq_ofNat_of_zero_le h0
  have hj : j < k := by omega
  obtain ⟨e1, e2, _, _⟩ := r43_eq h hk hj
  have := pab h.pl hj
  have := h.le
  rw [e1, e2]; omega
theorem hint43a (h : ROk n g j1 j2 k p) (hk : k ≤ 30) {i : Int} (h0 : 0 ≤ i) (h1 : i < k) : 0 ≤ r43.v0 p i := (hint43 h hk h0 h1).1
theorem hint43b (h : ROk n g j1 j2 k p) (hk : k ≤ 30) {i : Int} (h0 : 0 ≤ i) (h1 : i < k) : r43.v0 p i ≤ r43.v1 p i := (hint43 h hk h0 h1).2.1
theorem hint43c (h : ROk n g j1 j2 k p) (hk : k ≤ 30) {i : Int} (h0 : 0 ≤ i) (h1 : i < k) : r43.v1 p i ≤ n := (hint43 h hk h0 h1).2.2.1
theorem hint43d (h : ROk n g j1 j2 k p) (hk : k ≤ 30) {i : Int} (h0 : 0 ≤ i) (h1 : i < k) : r43.v1 p i ≤ 9223372036854775807 := by
  have := (hint43 h hk h0 h1).2.2.2; omega

theorem bd43 (h : ROk n g j1 j2 k p) (hk : k ≤ 30) {i : Int} (h1 : i < k) (h0 : 0 ≤ i) : 0 ≤ r43.v0 p i ∧ r43.v0 p i < r43.v1 p i ∧ r43.v1 p i ≤ n ∧ r43.v1 p i ≤ 512 ∧
    0 ≤ r43.v2 n p i ∧ r43.v2 n p i ≤ 512 ∧ r43.v0 p i + r43.v2 n p i ≤ r43.v1 p i ∧ r43.v0 p i + r43.v2 n p i ≤ n - 1 ∧ IntKind.i64.wrap (r43.v0 p i + r43.v2 n p i) = r43.v0 p i + r43.v2 n p i := by
  obtain ⟨j, rfl⟩ := Int.eq_ofNat_of_zero_le h0
  have hj : j < k := by omega
  obtain ⟨e1, e2, e3, _⟩ := r43_eq h hk hj
  have := pab h.pl hj
  have := h.le
  rw [e1, e2, e3]
  unfold jn
  split <;> (rw [i64_small (by omega)]; omega)
theorem bd22 (h : (r16.v n g j1 j2 k p == 0) = true) (hn : n ≤ 9223372036854775807) (hk : k ≤ 30) {i : Int} (h1 : i < (r42.v k p).length) (h0 : 0 ≤ i) :
    0 ≤ (rget (r42.v k p) i.toNat).a ∧ (rget (r42.v k p) i.toNat).a < (rget (r42.v k p) i.toNat).b ∧ (rget (r42.v k p) i.toNat).b ≤ n ∧ (rget (r42.v k p) i.toNat).b ≤ 512 ∧
    0 ≤ r33.v2 n g (rget (r42.v k p) i.toNat).a (rget (r42.v k p) i.toNat).b ∧ r33.v2 n g (rget (r42.v k p) i.toNat).a (rget (r42.v k p) i.toNat).b ≤ 512 := by
  have hr := ok_of hn (by omega) h
  obtain ⟨j, rfl⟩ := Int.eq_ofNat_of_zero_le h0
  simp only [Int.toNat_natCast]
  have hj : j < k := by rw [part_len hr hk] at h1; omega
  have e := (r33_part hr hk hj).2.2
  have hab := pab hr.pl hj
  have hle := hr.le
  have hb := jn_bd hab.1 hab.2 hle
  rw [e, part_get hr hk hj, pa_eq hr.pl hj, pb_eq hr.pl hj]
  omega
theorem bd_m2 {m2 : Nat} (h : (m2 : Int) = IntKind.i64.wrap ((n : Int) - 1)) (hn : n ≤ 9223372036854775807) : (m2 : Int) = n - 1 := by
  rw [h, i64_small (by omega)]
theorem bd42 (h : (r16.v n g j1 j2 k p == 0) = true) (hn : n ≤ 9223372036854775807) (hk : k ≤ 30) : (r42.v k p).length ≤ 30 := by
  rw [part_len (ok_of hn (by omega) h) hk]; exact hk
/-- The lengths of a part that fails. -/
def outL (b : Bool) (g : Nat → PD) (u w : Nat) : List Int := (List.range' u (w - u)).map fun i => bif b then (g i).hi else (g i).lo

theorem L19_run (h : ROk n g j1 j2 k p) (hk : k ≤ 30) {i : Nat} (hi : i < k) (e0 : r41.v0 n g j1 j2 k p = i) :
    ∀ m c v l, c ≤ pb p i - pa p i → pb p i - pa p i - c < m → ∃ v', L19a.N n g j1 j2 k p m v l (c : Int) = .e0 v' (l ++ outL (r41.v1 n g j1 j2 k p) g (pa p i + c) (pb p i)) := by
  have ha := pa_eq h.pl hi
  have hb := pb_eq h.pl hi
  have hab := pab h.pl hi
  have hn := h.le
  intro m
  induction m with
  | zero => intro c v l _ h; omega
  | succ m ih =>
    intro c v l hc hm
    simp only [L19a.N, e0, Int.toNat_natCast, part_get h hk hi, ha, hb]
    by_cases hlt : c < pb p i - pa p i
    · rw [decide_eq_true (show (c : Int) < ((pb p i - pa p i : Nat) : Int) by omega), wrap_succ (n := pb p i - pa p i) (by omega) hlt]
      simp only [cond_true]
      have hout : outL (r41.v1 n g j1 j2 k p) g (pa p i + c) (pb p i) = (bif r41.v1 n g j1 j2 k p then (g (pa p i + c)).hi else (g (pa p i + c)).lo) :: outL (r41.v1 n g j1 j2 k p) g (pa p i + (c + 1)) (pb p i) := by
        unfold outL
        rw [show pb p i - (pa p i + c) = (pb p i - (pa p i + (c + 1))) + 1 by omega, List.range'_succ]; rfl
      cases hv : r41.v1 n g j1 j2 k p with
      | true =>
        rw [hv] at hout ih
        simp only [cond_true] at hout ⊢
        obtain ⟨v', e⟩ := ih (c + 1) (v + 1) (l ++ [(g (pa p i + c)).hi]) hlt (by omega)
        exact ⟨v', by rw [e, hout, List.append_assoc]; rfl⟩
      | false =>
        rw [hv] at hout ih
        simp only [cond_false] at hout ⊢
        obtain ⟨v', e⟩ := ih (c + 1) (v + 1) (l ++ [(g (pa p i + c)).lo]) hlt (by omega)
        exact ⟨v', by rw [e, hout, List.append_assoc]; rfl⟩
    · obtain rfl : c = pb p i - pa p i := by omega
      rw [decide_eq_false (by omega)]
      refine ⟨v, ?_⟩
      unfold outL
      rw [show pb p i - (pa p i + (pb p i - pa p i)) = 0 by omega]
      simp

/-- Failing, of a valid run. -/
theorem r19_cases (h : ROk n g j1 j2 k p) (hk : k ≤ 30) (hz : r16.v n g j1 j2 k p = 0) :
    ((∀ i, i < k → long n g j1 p i = false ∧ short n g j2 p i = false) ∧ r19.v0 n g j1 j2 k p = 0 ∧ r19.v1 n g j1 j2 k p = [] ∧ r19.v2 n g j1 j2 k p = 9) ∨
    ∃ i, i < k ∧ (long n g j1 p i || short n g j2 p i) = true ∧ (∀ l, l < i → long n g j1 p l = false ∧ short n g j2 p l = false) ∧
      r19.v0 n g j1 j2 k p = i ∧ r19.v1 n g j1 j2 k p = outL (long n g j1 p i) g (pa p i) (pb p i) ∧ r19.v2 n g j1 j2 k p = 0 := by
  unfold r19.v0 r19.v1 r19.v2
  rw [hz]
  simp only [beq_self_eq_true, cond_true]
  rcases r41_cases h hk with ⟨a1, a2, _⟩ | ⟨i, hi, a1, a2, a3, a4⟩
  · rw [a2]
    exact .inl ⟨a1, rfl, rfl, rfl⟩
  · right
    refine ⟨i, hi, a1, a2, ?_⟩
    have hab := pab h.pl hi
    obtain ⟨v', e⟩ := L19_run h hk hi a3 (pb p i - pa p i + 1) 0 0 [] (Nat.zero_le _) (by omega)
    have e' : L19a.run n g j1 j2 k p 0 [] 0 = .e0 v' (outL (r41.v1 n g j1 j2 k p) g (pa p i) (pb p i)) := by
      have ha := pa_eq h.pl hi
      have hb := pb_eq h.pl hi
      simpa [L19a.run, L19a.mu, a3, part_get h hk hi, ha, hb] using e
    rw [e', a3, decide_eq_false (by omega), a4]
    exact ⟨rfl, rfl, rfl⟩
end Go.Proofs.Ytjdakdjgkpfjkaa

/- the tolerance seat's contracts: Greatest. -/
open Go
namespace Go.Proofs.Ytjdakdjgkpfjkaa
set_option linter.unusedSimpArgs false
set_option linter.unusedVariables false
set_option maxHeartbeats 0
set_option maxRecDepth 100000
def ivs' (m : Nat) (f : Nat → Int) : AV := .sl 1 m (fun i => .int .i64 (f i))
@[simp] theorem low_ivs' (lo m : Nat) (f : Nat → Int) : Low lo (ivs' m f) = True := by unfold ivs'; simp
noncomputable def r51.v (x : Int) : Bool := (bif decide (x < 1) then true else decide (x > 1000000))
theorem r51 (x : Int) (h : AHeap) : Ret Try.prog 51 ([AV.int IntKind.i64 x]) h (AV.bool (r51.v x)) h := by
  cases h1 : decide (x < 1) with
  | true =>
    have h1p := of_decide_eq_true h1
    exact Ret.of_run1 mix [(AV.bool (r51.v x))] Try.func51 rfl [.b true, .b true, .b true] (by simp) (by simp) (kmp (by kernel_rfl) (And.intro h1 (And.intro h1 (And.intro h1 (And.intro (show (AV.bool true) = ((AV.bool (r51.v x))) by first | (simp only [r51.v, h1, cond_true, cond_false]; done) | (try unfold r51.v; try simp only [h1, cond_true, cond_false]; try rfl; done) | rfl) trivial))))) h
  | false =>
    have h1p := of_decide_eq_false h1
    exact Ret.of_run1 mix [(AV.bool (r51.v x))] Try.func51 rfl [.b false, .b false, .b false] (by simp) (by simp) (kmp (by kernel_rfl) (And.intro h1 (And.intro h1 (And.intro h1 (And.intro (show (AV.bool (decide (x > 1000000))) = ((AV.bool (r51.v x))) by first | (simp only [r51.v, h1, cond_true, cond_false]; done) | (try unfold r51.v; try simp only [h1, cond_true, cond_false]; try rfl; done) | rfl) trivial))))) h

inductive L62a.O where
  | e0 (a0 : Int)
  | e1
noncomputable def L62a.T (m : Nat) (f : Nat → Int) (a8 : Int) : List AV := mkT 19 [(0, AV.sl 1 m fun (i : Nat) => AV.int IntKind.i64 (f i)), (1, AV.fn 51 []), (7, AV.int IntKind.i64 (↑m : Int)), (8, AV.int IntKind.i64 a8)]
noncomputable def L62a.H (m : Nat) (f : Nat → Int) (a8 : Int) : AHeap := []
def L62a.inv (m : Nat) (f : Nat → Int) (a8 : Int) : Prop := 0 ≤ a8 ∧ (a8 ≤ (↑m : Int) ∨ a8 ≤ 0)
noncomputable def L62a.mu (m : Nat) (f : Nat → Int) (a8 : Int) : Nat := ((↑m : Int) - a8).toNat
noncomputable def L62a.E : L62a.O → Exit
  | .e0 a0 => Exit.ret
  | .e1 => Exit.exit 0
noncomputable def L62a.X (m : Nat) (f : Nat → Int) : L62a.O → List AV
  | .e0 a0 => mkT 19 [(4, (AV.int IntKind.i64 a0))]
  | .e1 => mkT 19 []
noncomputable def L62a.XH (m : Nat) (f : Nat → Int) : L62a.O → AHeap
  | .e0 a0 => ([])
  | .e1 => ([])
noncomputable def L62a.N (m : Nat) (f : Nat → Int) : Nat → Int → L62a.O
  | 0, _ => .e0 default
  | k_ + 1, a8 => (bif decide (a8 < (↑m : Int)) then (bif r51.v (f a8.toNat) then (.e0 (a8)) else (L62a.N m f k_ (IntKind.i64.wrap (a8 + 1)))) else (.e1))
noncomputable def L62a.run (m : Nat) (f : Nat → Int) (a8 : Int) : L62a.O := L62a.N m f ((((↑m : Int) - a8).toNat) + 1) a8
def L62a.Next (m : Nat) (f : Nat → Int) (k_ : Nat) (z_ : Int) (T_ : List AV) (h_ : AHeap) : Prop := LNextP (fun (z_ : Int) => L62a.T m f z_) (fun (z_ : Int) => L62a.H m f z_) (fun (z_ : Int) => L62a.inv m f z_) (fun (z_ : Int) => L62a.mu m f z_) (fun (k_ : Nat) (z_ : Int) => L62a.N m f k_ z_) k_ z_ T_ h_
def L62a.End (m : Nat) (f : Nat → Int) (k_ : Nat) (z_ : Int) (e_ : Exit) (T_ : List AV) (h_ : AHeap) : Prop := LEndP (fun (z_ : Int) => L62a.H m f z_) (fun (k_ : Nat) (z_ : Int) => L62a.N m f k_ z_) L62a.E (L62a.X m f) (L62a.XH m f) k_ z_ e_ T_ h_
theorem L62a.nx (m : Nat) (f : Nat → Int) {k_ : Nat} {z_ : Int} {h_ : AHeap} (s_ : Int) (h1 : L62a.inv m f s_) (h2 : L62a.mu m f s_ < L62a.mu m f z_) (h3 : L62a.N m f k_ s_ = L62a.N m f (k_ + 1) z_) (h4 : PopOk (L62a.H m f z_) h_ (L62a.T m f s_) (L62a.H m f s_)) : LNextP (fun (z_ : Int) => L62a.T m f z_) (fun (z_ : Int) => L62a.H m f z_) (fun (z_ : Int) => L62a.inv m f z_) (fun (z_ : Int) => L62a.mu m f z_) (fun (k_ : Nat) (z_ : Int) => L62a.N m f k_ z_) k_ z_ (L62a.T m f s_) h_ := LNextP.mk (Tm := (fun (z_ : Int) => L62a.T m f z_)) (Hp := (fun (z_ : Int) => L62a.H m f z_)) (inv := (fun (z_ : Int) => L62a.inv m f z_)) (mu := (fun (z_ : Int) => L62a.mu m f z_)) (l := (fun (k_ : Nat) (z_ : Int) => L62a.N m f k_ z_)) s_ h1 h2 h3 h4
theorem L62a.en (m : Nat) (f : Nat → Int) {k_ : Nat} {z_ : Int} {h_ : AHeap} (o_ : L62a.O) (h3 : L62a.N m f (k_ + 1) z_ = o_) (h4 : PopOk (L62a.H m f z_) h_ (L62a.X m f o_) (L62a.XH m f o_)) : LEndP (fun (z_ : Int) => L62a.H m f z_) (fun (k_ : Nat) (z_ : Int) => L62a.N m f k_ z_) L62a.E (L62a.X m f) (L62a.XH m f) k_ z_ (L62a.E o_) (L62a.X m f o_) h_ := LEndP.mk (Hp := (fun (z_ : Int) => L62a.H m f z_)) (l := (fun (k_ : Nat) (z_ : Int) => L62a.N m f k_ z_)) (oE := L62a.E) (oT := L62a.X m f) (oH := L62a.XH m f) o_ h3 h4
theorem L62a.spec (m : Nat) (f : Nat → Int) (hm : m ≤ 9223372036854775807) (k_ : Nat) (z_ : Int) (hi_ : L62a.inv m f z_) (hm_ : L62a.mu m f z_ < k_) : LoopTo Try.prog (loopN Try.f62 0) (L62a.T m f z_) (L62a.H m f z_) (L62a.E (L62a.N m f k_ z_)) (L62a.X m f (L62a.N m f k_ z_)) (L62a.XH m f (L62a.N m f k_ z_)) := by
  refine LoopTo.fuelP mix (fun (z_ : Int) => L62a.T m f z_) (fun (z_ : Int) => L62a.H m f z_) (fun (z_ : Int) => L62a.inv m f z_) (fun (z_ : Int) => L62a.mu m f z_) (fun (k_ : Nat) (z_ : Int) => L62a.N m f k_ z_) L62a.E (L62a.X m f) (L62a.XH m f) (others 19 [0, 1, 7, 8]) (others 19 [4]) (others 19 []) ?_ k_ z_ hi_ hm_
  clear hm_ hi_ z_ k_
  intro k_ z_ hinv hmu
  revert hinv hmu; revert z_; intro a8 hinv hmu
  have hinv : 0 ≤ a8 ∧ (a8 ≤ (↑m : Int) ∨ a8 ≤ 0) := hinv
  have hmu : (((↑m : Int) - a8).toNat) < k_ + 1 := hmu
  cases h1 : decide (a8 < (↑m : Int)) with
  | true =>
    have h1p := of_decide_eq_true h1
    have o0 : (0 : Int) ≤ a8 := by first | assumption | omega | (simp_all; done)
    have o1 : a8 < (↑m : Int) := by first | assumption | omega | (simp_all; done)
    cases h2 : r51.v (f a8.toNat) with
    | true =>
      exact ⟨[.b true, .ret (AV.bool (r51.v (f a8.toNat))) ([]), .b true], kmp (by kernel_rfl) (And.intro h1 (And.intro (And.intro o0 o1) (And.intro (r51 (f a8.toNat) ([])) (And.intro h2 (L62a.en m f (k_ := k_) (z_ := a8) (.e0 (a8) : L62a.O) (by first | (simp only [L62a.N, h1, h2, cond_true, cond_false]; done) | (try unfold L62a.N; try simp only [h1, cond_true, cond_false]; try simp only [h2, cond_true, cond_false]; try rfl; done)) PopOk.same)))))⟩
    | false =>
      try have := IntWalk.i64_in (a8 + 1) (by omega)
      have o2 : (0 : Int) ≤ IntKind.i64.wrap (a8 + (1 : Int)) := by first | assumption | omega | (simp_all; done)
      have o3 : IntKind.i64.wrap (a8 + (1 : Int)) ≤ (↑m : Int) ∨ IntKind.i64.wrap (a8 + (1 : Int)) ≤ (0 : Int) := by first | assumption | omega | (simp_all; done)
      have o4 : ((↑m : Int) - IntKind.i64.wrap (a8 + (1 : Int))).toNat < ((↑m : Int) - a8).toNat := by first | assumption | omega | (simp_all; done)
      exact ⟨[.b true, .ret (AV.bool (r51.v (f a8.toNat))) ([]), .b false], kmp (by kernel_rfl) (And.intro h1 (And.intro (And.intro o0 o1) (And.intro (r51 (f a8.toNat) ([])) (And.intro h2 (L62a.nx m f (k_ := k_) (z_ := a8) (IntKind.i64.wrap (a8 + 1)) (And.intro o2 o3) o4 (by first | (simp only [L62a.N, h1, h2, cond_true, cond_false]; done) | (try unfold L62a.N; try simp only [h1, cond_true, cond_false]; try simp only [h2, cond_true, cond_false]; try rfl; done)) PopOk.same)))))⟩
  | false =>
    have h1p := of_decide_eq_false h1
    exact ⟨[.b false], kmp (by kernel_rfl) (And.intro h1 (L62a.en m f (k_ := k_) (z_ := a8) (.e1 : L62a.O) (by first | (simp only [L62a.N, h1, cond_true, cond_false]; done) | (try unfold L62a.N; try simp only [h1, cond_true, cond_false]; try rfl; done)) PopOk.same))⟩
theorem L62a.e0 (m : Nat) (f : Nat → Int) (hm : m ≤ 9223372036854775807) (a8 : Int) (hinv : L62a.inv m f a8) (a0 : Int) (hN : L62a.run m f a8 = (.e0 a0 : L62a.O)) : LoopTo Try.prog (loopN Try.f62 0) (L62a.T m f a8) (L62a.H m f a8) (Exit.ret) (L62a.X m f (.e0 a0 : L62a.O)) (L62a.XH m f (.e0 a0 : L62a.O)) := by
  have h_ := L62a.spec m f hm ((((↑m : Int) - a8).toNat) + 1) a8 hinv (Nat.lt_succ_self _)
  unfold L62a.run at hN
  simp only [hN] at h_
  exact h_
theorem L62a.e1 (m : Nat) (f : Nat → Int) (hm : m ≤ 9223372036854775807) (a8 : Int) (hinv : L62a.inv m f a8) (hN : L62a.run m f a8 = (.e1 : L62a.O)) : LoopTo Try.prog (loopN Try.f62 0) (L62a.T m f a8) (L62a.H m f a8) (Exit.exit 0) (L62a.X m f (.e1 : L62a.O)) (L62a.XH m f (.e1 : L62a.O)) := by
  have h_ := L62a.spec m f hm ((((↑m : Int) - a8).toNat) + 1) a8 hinv (Nat.lt_succ_self _)
  unfold L62a.run at hN
  simp only [hN] at h_
  exact h_

noncomputable def r62.v (m : Nat) (f : Nat → Int) : Int := (match L62a.run m f 0 with | .e0 h1d0 => h1d0 | .e1 => -1 )
theorem r62 (m : Nat) (f : Nat → Int) (hm : m ≤ 9223372036854775807) (h : AHeap) : Ret Try.prog 62 ([ivs' m f, AV.fn 51 []]) h (AV.int IntKind.i64 (r62.v m f)) h := by
  have o0 : m ≤ (9223372036854775807 : Nat) := by first | assumption | omega | (simp_all; done)
  have o1 : (0 : Int) ≤ (↑m : Int) ∨ (0 : Int) ≤ (0 : Int) := by first | assumption | omega | (simp_all; done)
  cases h1 : L62a.run m f 0 with
  | e0 h1d0 =>
    exact Ret.of_run1 mix [(AV.int IntKind.i64 (r62.v m f))] Try.func62 rfl [.loop (others 19 [0, 1, 7, 8]) (Exit.ret) (L62a.X m f (L62a.O.e0 h1d0)) (L62a.XH m f (L62a.O.e0 h1d0))] (by simp) (by simp) (kmp (by kernel_rfl) (And.intro (L62a.e0 (m) (f) o0 (0) (And.intro (show (0 : Int) ≤ (0 : Int) by first | decide | exact Int.NonNeg.mk _) o1) h1d0 h1) (And.intro (show (AV.int IntKind.i64 h1d0) = ((AV.int IntKind.i64 (r62.v m f))) by first | (simp only [r62.v, h1, cond_true, cond_false]; done) | (try unfold r62.v; try simp only [h1, cond_true, cond_false]; try rfl; done) | rfl) trivial))) h
  | e1 =>
    exact Ret.of_run1 mix [(AV.int IntKind.i64 (r62.v m f))] Try.func62 rfl [.loop (others 19 [0, 1, 7, 8]) (Exit.exit 0) (L62a.X m f L62a.O.e1) (L62a.XH m f L62a.O.e1)] (by simp) (by simp) (kmp (by kernel_rfl) (And.intro (L62a.e1 (m) (f) o0 (0) (And.intro (show (0 : Int) ≤ (0 : Int) by first | decide | exact Int.NonNeg.mk _) o1) h1) (And.intro (show (AV.int IntKind.i64 (-1)) = ((AV.int IntKind.i64 (r62.v m f))) by first | (simp only [r62.v, h1, cond_true, cond_false]; done) | (try unfold r62.v; try simp only [h1, cond_true, cond_false]; try rfl; done) | rfl) trivial))) h

noncomputable def r50.v (m : Nat) (f : Nat → Int) : Bool := decide (r62.v m f ≥ 0)
theorem r50 (m : Nat) (f : Nat → Int) (hm : m ≤ 9223372036854775807) (h : AHeap) : Ret Try.prog 50 ([ivs' m f, AV.fn 51 []]) h (AV.bool (r50.v m f)) h := by
  have o0 : m ≤ (9223372036854775807 : Nat) := by first | assumption | omega | (simp_all; done)
  exact Ret.of_run1 mix [(AV.bool (r50.v m f))] Try.func50 rfl [.ret (AV.int IntKind.i64 (r62.v m f)) ([])] (by simp) (by simp) (kmp (by kernel_rfl) (And.intro (r62 (m) (f) o0 ([])) (And.intro (show (AV.bool (decide (r62.v m f ≥ 0))) = ((AV.bool (r50.v m f))) by first | (simp only [r50.v, cond_true, cond_false]; done) | (try unfold r50.v; try rfl; done) | rfl) trivial))) h

inductive L27ab.O where
  | e0 (a0 : Nat) (a1 : List PD)
noncomputable def L27ab.T (m : Nat) (f : Nat → Int) (j1 : Int) (j2 : Int) (k : Nat) (p : Nat → PD) (a10 : Int) (b45 : Int) (bv1_0 : Nat) (bl1_0 : List PD) : List AV := mkT 73 [(0, AV.sl 1 m fun (i : Nat) => AV.int IntKind.i64 (f i)), (2, AV.sl 2 k fun (i : Nat) => AV.agg [AV.int IntKind.i64 (p i).lo, AV.int IntKind.i64 (p i).hi]), (4, AV.ptr 0 1 2 0 0), (10, AV.int IntKind.i64 a10), (11, AV.ptr 1 1 4 0 0), (43, AV.sl 1 m fun (i : Nat) => AV.int IntKind.i64 (f i)), (44, AV.int IntKind.i64 (↑m : Int)), (45, AV.int IntKind.i64 b45)]
noncomputable def L27ab.H (m : Nat) (f : Nat → Int) (j1 : Int) (j2 : Int) (k : Nat) (p : Nat → PD) (a10 : Int) (b45 : Int) (bv1_0 : Nat) (bl1_0 : List PD) : AHeap := [AObj.var (AV.agg [AV.int IntKind.i64 j1, AV.int IntKind.i64 j2]), AObj.var (AV.agg [AV.ms 2 bv1_0 2 0 (List.map PD.av bl1_0).length, AV.int IntKind.i64 j1, AV.int IntKind.i64 j2, AV.sl 2 k fun (i : Nat) => AV.agg [AV.int IntKind.i64 (p i).lo, AV.int IntKind.i64 (p i).hi]]), AObj.row 2 bv1_0 (Col.recs (List.map PD.av bl1_0))]
def L27ab.inv (m : Nat) (f : Nat → Int) (j1 : Int) (j2 : Int) (k : Nat) (p : Nat → PD) (a10 : Int) (b45 : Int) (bv1_0 : Nat) (bl1_0 : List PD) : Prop := 0 ≤ b45 ∧ (b45 ≤ (↑m : Int) ∨ b45 ≤ 0) ∧ (↑bl1_0.length : Int) ≤ b45 - 0
noncomputable def L27ab.mu (m : Nat) (f : Nat → Int) (j1 : Int) (j2 : Int) (k : Nat) (p : Nat → PD) (a10 : Int) (b45 : Int) (bv1_0 : Nat) (bl1_0 : List PD) : Nat := ((↑m : Int) - b45).toNat
noncomputable def L27ab.E : L27ab.O → Exit
  | .e0 a0 a1 => Exit.exit 2
noncomputable def L27ab.X (m : Nat) (f : Nat → Int) (j1 : Int) (j2 : Int) (k : Nat) (p : Nat → PD) (a10 : Int) : L27ab.O → List AV
  | .e0 a0 a1 => mkT 73 [(0, (AV.sl 1 m fun (i : Nat) => AV.int IntKind.i64 (f i))), (2, (AV.sl 2 k fun (i : Nat) => AV.agg [AV.int IntKind.i64 (p i).lo, AV.int IntKind.i64 (p i).hi])), (4, (AV.ptr 0 1 2 0 0)), (10, (AV.int IntKind.i64 a10)), (11, (AV.ptr 1 1 4 0 0))]
noncomputable def L27ab.XH (m : Nat) (f : Nat → Int) (j1 : Int) (j2 : Int) (k : Nat) (p : Nat → PD) (a10 : Int) : L27ab.O → AHeap
  | .e0 a0 a1 => ((AObj.var (AV.agg [AV.int IntKind.i64 j1, AV.int IntKind.i64 j2])) :: ((AObj.var (AV.agg ((AV.ms 2 a0 2 0 (List.length (List.map PD.av a1))) :: ([AV.int IntKind.i64 j1, AV.int IntKind.i64 j2, AV.sl 2 k fun (i : Nat) => AV.agg [AV.int IntKind.i64 (p i).lo, AV.int IntKind.i64 (p i).hi]])))) :: ((AObj.row 2 a0 (Col.recs (List.map PD.av a1))) :: ([]))))
noncomputable def L27ab.N (m : Nat) (f : Nat → Int) (a10 : Int) : Nat → Int → Nat → (List PD) → L27ab.O
  | 0, _, _, _ => .e0 default default
  | k_ + 1, b45, bv1_0, bl1_0 => (bif decide (b45 < (↑m : Int)) then (L27ab.N m f a10 k_ (IntKind.i64.wrap (b45 + 1)) (bv1_0 + 1) (PD.mk (IntKind.i64.wrap (f b45.toNat - a10)) (IntKind.i64.wrap (f b45.toNat + a10)) :: bl1_0)) else (.e0 (bv1_0) (bl1_0)))
noncomputable def L27ab.run (m : Nat) (f : Nat → Int) (a10 : Int) (b45 : Int) (bv1_0 : Nat) (bl1_0 : List PD) : L27ab.O := L27ab.N m f a10 ((((↑m : Int) - b45).toNat) + 1) b45 bv1_0 bl1_0
def L27ab.Next (m : Nat) (f : Nat → Int) (j1 : Int) (j2 : Int) (k : Nat) (p : Nat → PD) (a10 : Int) (k_ : Nat) (z_ : Int × Nat × (List PD)) (T_ : List AV) (h_ : AHeap) : Prop := LNextP (fun (z_ : Int × Nat × (List PD)) => L27ab.T m f j1 j2 k p a10 z_.1 z_.2.1 z_.2.2) (fun (z_ : Int × Nat × (List PD)) => L27ab.H m f j1 j2 k p a10 z_.1 z_.2.1 z_.2.2) (fun (z_ : Int × Nat × (List PD)) => L27ab.inv m f j1 j2 k p a10 z_.1 z_.2.1 z_.2.2) (fun (z_ : Int × Nat × (List PD)) => L27ab.mu m f j1 j2 k p a10 z_.1 z_.2.1 z_.2.2) (fun (k_ : Nat) (z_ : Int × Nat × (List PD)) => L27ab.N m f a10 k_ z_.1 z_.2.1 z_.2.2) k_ z_ T_ h_
def L27ab.End (m : Nat) (f : Nat → Int) (j1 : Int) (j2 : Int) (k : Nat) (p : Nat → PD) (a10 : Int) (k_ : Nat) (z_ : Int × Nat × (List PD)) (e_ : Exit) (T_ : List AV) (h_ : AHeap) : Prop := LEndP (fun (z_ : Int × Nat × (List PD)) => L27ab.H m f j1 j2 k p a10 z_.1 z_.2.1 z_.2.2) (fun (k_ : Nat) (z_ : Int × Nat × (List PD)) => L27ab.N m f a10 k_ z_.1 z_.2.1 z_.2.2) L27ab.E (L27ab.X m f j1 j2 k p a10) (L27ab.XH m f j1 j2 k p a10) k_ z_ e_ T_ h_
theorem L27ab.nx (m : Nat) (f : Nat → Int) (j1 : Int) (j2 : Int) (k : Nat) (p : Nat → PD) (a10 : Int) {k_ : Nat} {z_ : Int × Nat × (List PD)} {h_ : AHeap} (s_ : Int × Nat × (List PD)) (h1 : L27ab.inv m f j1 j2 k p a10 s_.1 s_.2.1 s_.2.2) (h2 : L27ab.mu m f j1 j2 k p a10 s_.1 s_.2.1 s_.2.2 < L27ab.mu m f j1 j2 k p a10 z_.1 z_.2.1 z_.2.2) (h3 : L27ab.N m f a10 k_ s_.1 s_.2.1 s_.2.2 = L27ab.N m f a10 (k_ + 1) z_.1 z_.2.1 z_.2.2) (h4 : PopOk (L27ab.H m f j1 j2 k p a10 z_.1 z_.2.1 z_.2.2) h_ (L27ab.T m f j1 j2 k p a10 s_.1 s_.2.1 s_.2.2) (L27ab.H m f j1 j2 k p a10 s_.1 s_.2.1 s_.2.2)) : LNextP (fun (z_ : Int × Nat × (List PD)) => L27ab.T m f j1 j2 k p a10 z_.1 z_.2.1 z_.2.2) (fun (z_ : Int × Nat × (List PD)) => L27ab.H m f j1 j2 k p a10 z_.1 z_.2.1 z_.2.2) (fun (z_ : Int × Nat × (List PD)) => L27ab.inv m f j1 j2 k p a10 z_.1 z_.2.1 z_.2.2) (fun (z_ : Int × Nat × (List PD)) => L27ab.mu m f j1 j2 k p a10 z_.1 z_.2.1 z_.2.2) (fun (k_ : Nat) (z_ : Int × Nat × (List PD)) => L27ab.N m f a10 k_ z_.1 z_.2.1 z_.2.2) k_ z_ (L27ab.T m f j1 j2 k p a10 s_.1 s_.2.1 s_.2.2) h_ := LNextP.mk (Tm := (fun (z_ : Int × Nat × (List PD)) => L27ab.T m f j1 j2 k p a10 z_.1 z_.2.1 z_.2.2)) (Hp := (fun (z_ : Int × Nat × (List PD)) => L27ab.H m f j1 j2 k p a10 z_.1 z_.2.1 z_.2.2)) (inv := (fun (z_ : Int × Nat × (List PD)) => L27ab.inv m f j1 j2 k p a10 z_.1 z_.2.1 z_.2.2)) (mu := (fun (z_ : Int × Nat × (List PD)) => L27ab.mu m f j1 j2 k p a10 z_.1 z_.2.1 z_.2.2)) (l := (fun (k_ : Nat) (z_ : Int × Nat × (List PD)) => L27ab.N m f a10 k_ z_.1 z_.2.1 z_.2.2)) s_ h1 h2 h3 h4
theorem L27ab.en (m : Nat) (f : Nat → Int) (j1 : Int) (j2 : Int) (k : Nat) (p : Nat → PD) (a10 : Int) {k_ : Nat} {z_ : Int × Nat × (List PD)} {h_ : AHeap} (o_ : L27ab.O) (h3 : L27ab.N m f a10 (k_ + 1) z_.1 z_.2.1 z_.2.2 = o_) (h4 : PopOk (L27ab.H m f j1 j2 k p a10 z_.1 z_.2.1 z_.2.2) h_ (L27ab.X m f j1 j2 k p a10 o_) (L27ab.XH m f j1 j2 k p a10 o_)) : LEndP (fun (z_ : Int × Nat × (List PD)) => L27ab.H m f j1 j2 k p a10 z_.1 z_.2.1 z_.2.2) (fun (k_ : Nat) (z_ : Int × Nat × (List PD)) => L27ab.N m f a10 k_ z_.1 z_.2.1 z_.2.2) L27ab.E (L27ab.X m f j1 j2 k p a10) (L27ab.XH m f j1 j2 k p a10) k_ z_ (L27ab.E o_) (L27ab.X m f j1 j2 k p a10 o_) h_ := LEndP.mk (Hp := (fun (z_ : Int × Nat × (List PD)) => L27ab.H m f j1 j2 k p a10 z_.1 z_.2.1 z_.2.2)) (l := (fun (k_ : Nat) (z_ : Int × Nat × (List PD)) => L27ab.N m f a10 k_ z_.1 z_.2.1 z_.2.2)) (oE := L27ab.E) (oT := L27ab.X m f j1 j2 k p a10) (oH := L27ab.XH m f j1 j2 k p a10) o_ h3 h4
theorem L27ab.spec (m : Nat) (f : Nat → Int) (hm : m ≤ 30) (j1 : Int) (j2 : Int) (k : Nat) (p : Nat → PD) (hk : k ≤ 30) (k0_1 : (r36.v (↑m : Int) == 0) = true) (p0_1 : r36.v (↑m : Int) = 0) (k0_2 : r50.v m f = false) (k0_3 : r39.v j1 j2 = true) (k0_4 : (r40.v k p (↑m : Int) == 0) = true) (p0_4 : r40.v k p (↑m : Int) = 0) (a10 : Int) (i27a_0 : a10 ≤ 100) (i27a_1 : 0 - 1 ≤ a10 ∨ a10 = 100) (k1_1 : decide (a10 ≥ 0) = true) (p1_1 : a10 ≥ 0) (k_ : Nat) (z_ : Int × Nat × (List PD)) (hi_ : L27ab.inv m f j1 j2 k p a10 z_.1 z_.2.1 z_.2.2) (hm_ : L27ab.mu m f j1 j2 k p a10 z_.1 z_.2.1 z_.2.2 < k_) : LoopTo Try.prog (loopN Try.f27 1) (L27ab.T m f j1 j2 k p a10 z_.1 z_.2.1 z_.2.2) (L27ab.H m f j1 j2 k p a10 z_.1 z_.2.1 z_.2.2) (L27ab.E (L27ab.N m f a10 k_ z_.1 z_.2.1 z_.2.2)) (L27ab.X m f j1 j2 k p a10 (L27ab.N m f a10 k_ z_.1 z_.2.1 z_.2.2)) (L27ab.XH m f j1 j2 k p a10 (L27ab.N m f a10 k_ z_.1 z_.2.1 z_.2.2)) := by
  refine LoopTo.fuelP mix (fun (z_ : Int × Nat × (List PD)) => L27ab.T m f j1 j2 k p a10 z_.1 z_.2.1 z_.2.2) (fun (z_ : Int × Nat × (List PD)) => L27ab.H m f j1 j2 k p a10 z_.1 z_.2.1 z_.2.2) (fun (z_ : Int × Nat × (List PD)) => L27ab.inv m f j1 j2 k p a10 z_.1 z_.2.1 z_.2.2) (fun (z_ : Int × Nat × (List PD)) => L27ab.mu m f j1 j2 k p a10 z_.1 z_.2.1 z_.2.2) (fun (k_ : Nat) (z_ : Int × Nat × (List PD)) => L27ab.N m f a10 k_ z_.1 z_.2.1 z_.2.2) L27ab.E (L27ab.X m f j1 j2 k p a10) (L27ab.XH m f j1 j2 k p a10) (others 73 [0, 2, 4, 10, 11, 43, 44, 45]) (others 73 [6, 7]) (others 73 [0, 2, 4, 10, 11]) ?_ k_ z_ hi_ hm_
  clear hm_ hi_ z_ k_
  intro k_ z_ hinv hmu
  obtain ⟨b45, bv1_0, bl1_0⟩ := z_
  have hinv : 0 ≤ b45 ∧ (b45 ≤ (↑m : Int) ∨ b45 ≤ 0) ∧ (↑bl1_0.length : Int) ≤ b45 - 0 := hinv
  have hmu : (((↑m : Int) - b45).toNat) < k_ + 1 := hmu
  cases h1 : decide (b45 < (↑m : Int)) with
  | true =>
    have h1p := of_decide_eq_true h1
    have o0 : (0 : Int) ≤ b45 := by first | assumption | omega | (simp_all; done)
    have o1 : b45 < (↑m : Int) := by first | assumption | omega | (simp_all; done)
    have o2 : ((List.map PD.av bl1_0).length + (1 : Nat)) * (16 : Nat) ≤ (140737488355328 : Nat) := by first | assumption | omega | (simp only [List.length_append, List.length_cons, List.length_nil, List.length_map]; omega) | (simp_all; done)
    have o3 : (List.map PD.av bl1_0).length = (Col.recs (List.map PD.av bl1_0)).len := by first | assumption | omega | (simp only [List.length_append, List.length_cons, List.length_nil, List.length_map]; omega) | rfl | (exact Nat.le_refl _) | (simp [Col.len]; done) | (simp_all; done)
    try have := IntWalk.i64_in (b45 + 1) (by omega)
    have o4 : (0 : Int) ≤ IntKind.i64.wrap (b45 + (1 : Int)) := by first | assumption | omega | (simp_all; done)
    have o5 : IntKind.i64.wrap (b45 + (1 : Int)) ≤ (↑m : Int) ∨ IntKind.i64.wrap (b45 + (1 : Int)) ≤ (0 : Int) := by first | assumption | omega | (simp_all; done)
    try have := IntWalk.i64_in (f b45.toNat - a10) (by omega)
    try have := IntWalk.i64_in (f b45.toNat + a10) (by omega)
    have o6 : (↑(PD.mk (IntKind.i64.wrap (f b45.toNat - a10)) (IntKind.i64.wrap (f b45.toNat + a10)) :: bl1_0).length : Int) ≤ IntKind.i64.wrap (b45 + (1 : Int)) - (0 : Int) := by first | assumption | omega | (simp only [List.length_append, List.length_cons, List.length_nil, List.length_map]; omega) | (simp_all; done)
    have o7 : ((↑m : Int) - IntKind.i64.wrap (b45 + (1 : Int))).toNat < ((↑m : Int) - b45).toNat := by first | assumption | omega | (simp_all; done)
    exact ⟨[.b true, .app .one false], kmp (by kernel_rfl) (And.intro h1 (And.intro (And.intro o0 o1) (And.intro (And.intro (show (2 : Nat) = (2 : Nat) by first | decide | exact Int.NonNeg.mk _) (And.intro (show AppMode.one.needs 1 fun (a : Nat) => (Col.ofList [AV.agg [AV.int IntKind.i64 (IntKind.i64.wrap (f b45.toNat - a10)), AV.int IntKind.i64 (IntKind.i64.wrap (f b45.toNat + a10))]]).get a by first | exact ⟨rfl, rfl⟩ | simp [AppMode.needs]) (And.intro o2 (And.intro (rfl : bv1_0 = bv1_0) (And.intro (show (0 : Nat) = (0 : Nat) by first | decide | exact Int.NonNeg.mk _) o3))))) (L27ab.nx m f j1 j2 k p a10 (k_ := k_) (z_ := (b45, bv1_0, bl1_0)) ((IntKind.i64.wrap (b45 + 1), bv1_0 + 1, PD.mk (IntKind.i64.wrap (f b45.toNat - a10)) (IntKind.i64.wrap (f b45.toNat + a10)) :: bl1_0)) (And.intro o4 (And.intro o5 o6)) o7 (by first | (simp only [L27ab.N, h1, cond_true, cond_false]; done) | (try unfold L27ab.N; try simp only [h1, cond_true, cond_false]; try rfl; done)) PopOk.same))))⟩
  | false =>
    have h1p := of_decide_eq_false h1
    exact ⟨[.b false], kmp (by kernel_rfl) (And.intro h1 (L27ab.en m f j1 j2 k p a10 (k_ := k_) (z_ := (b45, bv1_0, bl1_0)) (.e0 (bv1_0) (bl1_0) : L27ab.O) (by first | (simp only [L27ab.N, h1, cond_true, cond_false]; done) | (try unfold L27ab.N; try simp only [h1, cond_true, cond_false]; try rfl; done)) PopOk.same))⟩
theorem L27ab.e0 (m : Nat) (f : Nat → Int) (hm : m ≤ 30) (j1 : Int) (j2 : Int) (k : Nat) (p : Nat → PD) (hk : k ≤ 30) (k0_1 : (r36.v (↑m : Int) == 0) = true) (p0_1 : r36.v (↑m : Int) = 0) (k0_2 : r50.v m f = false) (k0_3 : r39.v j1 j2 = true) (k0_4 : (r40.v k p (↑m : Int) == 0) = true) (p0_4 : r40.v k p (↑m : Int) = 0) (a10 : Int) (i27a_0 : a10 ≤ 100) (i27a_1 : 0 - 1 ≤ a10 ∨ a10 = 100) (k1_1 : decide (a10 ≥ 0) = true) (p1_1 : a10 ≥ 0) (b45 : Int) (bv1_0 : Nat) (bl1_0 : List PD) (hinv : L27ab.inv m f j1 j2 k p a10 b45 bv1_0 bl1_0) (a0 : Nat) (a1 : List PD) (hN : L27ab.run m f a10 b45 bv1_0 bl1_0 = (.e0 a0 a1 : L27ab.O)) : LoopTo Try.prog (loopN Try.f27 1) (L27ab.T m f j1 j2 k p a10 b45 bv1_0 bl1_0) (L27ab.H m f j1 j2 k p a10 b45 bv1_0 bl1_0) (Exit.exit 2) (L27ab.X m f j1 j2 k p a10 (.e0 a0 a1 : L27ab.O)) (L27ab.XH m f j1 j2 k p a10 (.e0 a0 a1 : L27ab.O)) := by
  have h_ := L27ab.spec m f hm j1 j2 k p hk k0_1 p0_1 k0_2 k0_3 k0_4 p0_4 a10 i27a_0 i27a_1 k1_1 p1_1 ((((↑m : Int) - b45).toNat) + 1) (b45, bv1_0, bl1_0) hinv (Nat.lt_succ_self _)
  unfold L27ab.run at hN
  simp only [hN] at h_
  exact h_
theorem L27ab.len0_1 (m : Nat) (f : Nat → Int) (a10 : Int) : ∀ (m_ : Nat) (b45 : Int) (bv1_0 : Nat) (bl1_0 : List PD) (a0_ : Nat) (a1_ : List PD), L27ab.N m f a10 m_ b45 bv1_0 bl1_0 = (.e0 a0_ a1_ : L27ab.O) → (a1_).length ≤ (bl1_0).length + m_ := by
  intro m_
  induction m_ with
  | zero =>
    intro b45 bv1_0 bl1_0 a0_ a1_ h_
    simp only [L27ab.N] at h_
    cases h_
    exact Nat.zero_le _
  | succ m_ ih_ =>
    intro b45 bv1_0 bl1_0 a0_ a1_ h_
    cases h1 : decide (b45 < (↑m : Int)) with
    | true =>
      have h1p := of_decide_eq_true h1
      (simp only [L27ab.N, h1, cond_true, cond_false] at h_; first | (have := ih_ _ _ _ _ _ h_; simp only [List.length_append, List.length_cons, List.length_nil] at this; omega) | (cases h_; done) | (cases h_; omega))
    | false =>
      have h1p := of_decide_eq_false h1
      (simp only [L27ab.N, h1, cond_true, cond_false] at h_; first | (have := ih_ _ _ _ _ _ h_; simp only [List.length_append, List.length_cons, List.length_nil] at this; omega) | (cases h_; done) | (cases h_; omega))
theorem L27ab.lenR0_1 (m : Nat) (f : Nat → Int) (a10 : Int) {b45 : Int} {bv1_0 : Nat} {bl1_0 : List PD} {a0_ : Nat} {a1_ : List PD} (h_ : L27ab.run m f a10 b45 bv1_0 bl1_0 = (.e0 a0_ a1_ : L27ab.O)) : (a1_).length ≤ (bl1_0).length + ((((↑m : Int) - b45).toNat) + 1) := L27ab.len0_1 m f a10 _ b45 bv1_0 bl1_0 a0_ a1_ h_

inductive L27a.O where
  | e0 (a0 : Int)
  | e1
noncomputable def L27a.T (m : Nat) (f : Nat → Int) (j1 : Int) (j2 : Int) (k : Nat) (p : Nat → PD) (a10 : Int) : List AV := mkT 73 [(0, AV.sl 1 m fun (i : Nat) => AV.int IntKind.i64 (f i)), (2, AV.sl 2 k fun (i : Nat) => AV.agg [AV.int IntKind.i64 (p i).lo, AV.int IntKind.i64 (p i).hi]), (4, AV.ptr 0 1 2 0 0), (10, AV.int IntKind.i64 a10)]
noncomputable def L27a.H (m : Nat) (f : Nat → Int) (j1 : Int) (j2 : Int) (k : Nat) (p : Nat → PD) (a10 : Int) : AHeap := [AObj.var (AV.agg [AV.int IntKind.i64 j1, AV.int IntKind.i64 j2])]
def L27a.inv (m : Nat) (f : Nat → Int) (j1 : Int) (j2 : Int) (k : Nat) (p : Nat → PD) (a10 : Int) : Prop := a10 ≤ 100 ∧ (0 - 1 ≤ a10 ∨ a10 = 100)
noncomputable def L27a.mu (m : Nat) (f : Nat → Int) (j1 : Int) (j2 : Int) (k : Nat) (p : Nat → PD) (a10 : Int) : Nat := (a10 - (0 - 1)).toNat
noncomputable def L27a.E : L27a.O → Exit
  | .e0 a0 => Exit.ret
  | .e1 => Exit.exit 0
noncomputable def L27a.X (m : Nat) (f : Nat → Int) (j1 : Int) (j2 : Int) (k : Nat) (p : Nat → PD) : L27a.O → List AV
  | .e0 a0 => mkT 73 [(6, (AV.int IntKind.i64 a0)), (7, (AV.int IntKind.i64 0))]
  | .e1 => mkT 73 []
noncomputable def L27a.XH (m : Nat) (f : Nat → Int) (j1 : Int) (j2 : Int) (k : Nat) (p : Nat → PD) : L27a.O → AHeap
  | .e0 a0 => ([AObj.var (AV.agg [AV.int IntKind.i64 j1, AV.int IntKind.i64 j2])])
  | .e1 => ([AObj.var (AV.agg [AV.int IntKind.i64 j1, AV.int IntKind.i64 j2])])
noncomputable def L27a.N (m : Nat) (f : Nat → Int) (j1 : Int) (j2 : Int) (k : Nat) (p : Nat → PD) : Nat → Int → L27a.O
  | 0, _ => .e0 default
  | k_ + 1, a10 => (bif decide (a10 ≥ 0) then (match L27ab.run m f a10 0 0 [] with | .e0 h2d0 h2d1 => (bif r18.v1 h2d1.length (rget h2d1) j1 j2 k p == 0 then (bif r18.v0 h2d1.length (rget h2d1) j1 j2 k p then (.e0 (a10)) else (L27a.N m f j1 j2 k p k_ (IntKind.i64.wrap (a10 - 1)))) else (L27a.N m f j1 j2 k p k_ (IntKind.i64.wrap (a10 - 1)))) ) else (.e1))
noncomputable def L27a.run (m : Nat) (f : Nat → Int) (j1 : Int) (j2 : Int) (k : Nat) (p : Nat → PD) (a10 : Int) : L27a.O := L27a.N m f j1 j2 k p (((a10 - (0 - 1)).toNat) + 1) a10
def L27a.Next (m : Nat) (f : Nat → Int) (j1 : Int) (j2 : Int) (k : Nat) (p : Nat → PD) (k_ : Nat) (z_ : Int) (T_ : List AV) (h_ : AHeap) : Prop := LNextP (fun (z_ : Int) => L27a.T m f j1 j2 k p z_) (fun (z_ : Int) => L27a.H m f j1 j2 k p z_) (fun (z_ : Int) => L27a.inv m f j1 j2 k p z_) (fun (z_ : Int) => L27a.mu m f j1 j2 k p z_) (fun (k_ : Nat) (z_ : Int) => L27a.N m f j1 j2 k p k_ z_) k_ z_ T_ h_
def L27a.End (m : Nat) (f : Nat → Int) (j1 : Int) (j2 : Int) (k : Nat) (p : Nat → PD) (k_ : Nat) (z_ : Int) (e_ : Exit) (T_ : List AV) (h_ : AHeap) : Prop := LEndP (fun (z_ : Int) => L27a.H m f j1 j2 k p z_) (fun (k_ : Nat) (z_ : Int) => L27a.N m f j1 j2 k p k_ z_) L27a.E (L27a.X m f j1 j2 k p) (L27a.XH m f j1 j2 k p) k_ z_ e_ T_ h_
theorem L27a.nx (m : Nat) (f : Nat → Int) (j1 : Int) (j2 : Int) (k : Nat) (p : Nat → PD) {k_ : Nat} {z_ : Int} {h_ : AHeap} (s_ : Int) (h1 : L27a.inv m f j1 j2 k p s_) (h2 : L27a.mu m f j1 j2 k p s_ < L27a.mu m f j1 j2 k p z_) (h3 : L27a.N m f j1 j2 k p k_ s_ = L27a.N m f j1 j2 k p (k_ + 1) z_) (h4 : PopOk (L27a.H m f j1 j2 k p z_) h_ (L27a.T m f j1 j2 k p s_) (L27a.H m f j1 j2 k p s_)) : LNextP (fun (z_ : Int) => L27a.T m f j1 j2 k p z_) (fun (z_ : Int) => L27a.H m f j1 j2 k p z_) (fun (z_ : Int) => L27a.inv m f j1 j2 k p z_) (fun (z_ : Int) => L27a.mu m f j1 j2 k p z_) (fun (k_ : Nat) (z_ : Int) => L27a.N m f j1 j2 k p k_ z_) k_ z_ (L27a.T m f j1 j2 k p s_) h_ := LNextP.mk (Tm := (fun (z_ : Int) => L27a.T m f j1 j2 k p z_)) (Hp := (fun (z_ : Int) => L27a.H m f j1 j2 k p z_)) (inv := (fun (z_ : Int) => L27a.inv m f j1 j2 k p z_)) (mu := (fun (z_ : Int) => L27a.mu m f j1 j2 k p z_)) (l := (fun (k_ : Nat) (z_ : Int) => L27a.N m f j1 j2 k p k_ z_)) s_ h1 h2 h3 h4
theorem L27a.en (m : Nat) (f : Nat → Int) (j1 : Int) (j2 : Int) (k : Nat) (p : Nat → PD) {k_ : Nat} {z_ : Int} {h_ : AHeap} (o_ : L27a.O) (h3 : L27a.N m f j1 j2 k p (k_ + 1) z_ = o_) (h4 : PopOk (L27a.H m f j1 j2 k p z_) h_ (L27a.X m f j1 j2 k p o_) (L27a.XH m f j1 j2 k p o_)) : LEndP (fun (z_ : Int) => L27a.H m f j1 j2 k p z_) (fun (k_ : Nat) (z_ : Int) => L27a.N m f j1 j2 k p k_ z_) L27a.E (L27a.X m f j1 j2 k p) (L27a.XH m f j1 j2 k p) k_ z_ (L27a.E o_) (L27a.X m f j1 j2 k p o_) h_ := LEndP.mk (Hp := (fun (z_ : Int) => L27a.H m f j1 j2 k p z_)) (l := (fun (k_ : Nat) (z_ : Int) => L27a.N m f j1 j2 k p k_ z_)) (oE := L27a.E) (oT := L27a.X m f j1 j2 k p) (oH := L27a.XH m f j1 j2 k p) o_ h3 h4
theorem L27a.spec (m : Nat) (f : Nat → Int) (hm : m ≤ 30) (j1 : Int) (j2 : Int) (k : Nat) (p : Nat → PD) (hk : k ≤ 30) (k0_1 : (r36.v (↑m : Int) == 0) = true) (p0_1 : r36.v (↑m : Int) = 0) (k0_2 : r50.v m f = false) (k0_3 : r39.v j1 j2 = true) (k0_4 : (r40.v k p (↑m : Int) == 0) = true) (p0_4 : r40.v k p (↑m : Int) = 0) (k_ : Nat) (z_ : Int) (hi_ : L27a.inv m f j1 j2 k p z_) (hm_ : L27a.mu m f j1 j2 k p z_ < k_) : LoopTo Try.prog (loopN Try.f27 0) (L27a.T m f j1 j2 k p z_) (L27a.H m f j1 j2 k p z_) (L27a.E (L27a.N m f j1 j2 k p k_ z_)) (L27a.X m f j1 j2 k p (L27a.N m f j1 j2 k p k_ z_)) (L27a.XH m f j1 j2 k p (L27a.N m f j1 j2 k p k_ z_)) := by
  refine LoopTo.fuelP mix (fun (z_ : Int) => L27a.T m f j1 j2 k p z_) (fun (z_ : Int) => L27a.H m f j1 j2 k p z_) (fun (z_ : Int) => L27a.inv m f j1 j2 k p z_) (fun (z_ : Int) => L27a.mu m f j1 j2 k p z_) (fun (k_ : Nat) (z_ : Int) => L27a.N m f j1 j2 k p k_ z_) L27a.E (L27a.X m f j1 j2 k p) (L27a.XH m f j1 j2 k p) (others 73 [0, 2, 4, 10]) (others 73 [6, 7]) (others 73 []) ?_ k_ z_ hi_ hm_
  clear hm_ hi_ z_ k_
  intro k_ z_ hinv hmu
  revert hinv hmu; revert z_; intro a10 hinv hmu
  have hinv : a10 ≤ 100 ∧ (0 - 1 ≤ a10 ∨ a10 = 100) := hinv
  have hmu : ((a10 - (0 - 1)).toNat) < k_ + 1 := hmu
  cases h1 : decide (a10 ≥ 0) with
  | true =>
    have h1p := of_decide_eq_true h1
    have o0 : m ≤ (30 : Nat) := by first | assumption | omega | (simp_all; done)
    have o1 : k ≤ (30 : Nat) := by first | assumption | omega | (simp_all; done)
    have o2 : (r36.v (↑m : Int) == (0 : Int)) = true := by first | assumption | omega | (simp_all; done)
    have o3 : r36.v (↑m : Int) = (0 : Int) := by first | assumption | omega | (simp_all; done)
    have o4 : r50.v m f = false := by first | assumption | omega | (simp_all; done)
    have o5 : r39.v j1 j2 = true := by first | assumption | omega | (simp_all; done)
    have o6 : (r40.v k p (↑m : Int) == (0 : Int)) = true := by first | assumption | omega | (simp_all; done)
    have o7 : r40.v k p (↑m : Int) = (0 : Int) := by first | assumption | omega | (simp_all; done)
    have o8 : a10 ≤ (100 : Int) := by first | assumption | omega | (simp_all; done)
    have o9 : (-1 : Int) ≤ a10 ∨ a10 = (100 : Int) := by first | assumption | omega | (simp_all; done)
    have o10 : decide (a10 ≥ (0 : Int)) = true := by first | assumption | omega | (simp_all; done)
    have o11 : a10 ≥ (0 : Int) := by first | assumption | omega | (simp_all; done)
    have o12 : (0 : Int) ≤ (↑m : Int) ∨ (0 : Int) ≤ (0 : Int) := by first | assumption | omega | (simp_all; done)
    cases h2 : L27ab.run m f a10 0 0 [] with
    | e0 h2d0 h2d1 =>
      try have := L27ab.lenR0_1 _ _ _ (by assumption); (try simp only [List.length_nil] at this)
      have o13 : h2d1.length ≤ (9223372036854775807 : Nat) := by first | assumption | omega | (simp only [List.length_append, List.length_cons, List.length_nil, List.length_map]; omega) | (simp_all; done)
      cases h3 : r18.v1 h2d1.length (rget h2d1) j1 j2 k p == 0 with
      | true =>
        have h3p := eq_of_beq h3
        cases h4 : r18.v0 h2d1.length (rget h2d1) j1 j2 k p with
        | true =>
          exact ⟨[.b true, .virt [] [(some 1, 0, 2, Col.recs [])], .loop (others 73 [0, 2, 4, 10, 11, 43, 44, 45]) (Exit.exit 2) (L27ab.X m f j1 j2 k p a10 (L27ab.O.e0 h2d0 h2d1)) (L27ab.XH m f j1 j2 k p a10 (L27ab.O.e0 h2d0 h2d1)), .fret ([AV.agg [AV.sl 2 h2d1.length fun (i : Nat) => AV.agg [AV.int IntKind.i64 (rget h2d1 i).lo, AV.int IntKind.i64 (rget h2d1 i).hi], AV.int IntKind.i64 j1, AV.int IntKind.i64 j2, AV.sl 2 k fun (i : Nat) => AV.agg [AV.int IntKind.i64 (p i).lo, AV.int IntKind.i64 (p i).hi]]]) ([AObj.var (AV.agg [AV.int IntKind.i64 j1, AV.int IntKind.i64 j2]), AObj.var (AV.agg [AV.ms 2 h2d0 2 0 (List.map PD.av h2d1).length, AV.int IntKind.i64 j1, AV.int IntKind.i64 j2, AV.sl 2 k fun (i : Nat) => AV.agg [AV.int IntKind.i64 (p i).lo, AV.int IntKind.i64 (p i).hi]]), AObj.frow 2 h2d0 (Col.recs (List.map PD.av h2d1)).len fun (a : Nat) => (Col.recs (List.map PD.av h2d1)).get a]) (AV.tup [AV.bool (r18.v0 h2d1.length (rget h2d1) j1 j2 k p), AV.int IntKind.i64 (r18.v1 h2d1.length (rget h2d1) j1 j2 k p)]) ([AObj.var (AV.agg [AV.int IntKind.i64 j1, AV.int IntKind.i64 j2]), AObj.var (AV.agg [AV.ms 2 h2d0 2 0 (List.map PD.av h2d1).length, AV.int IntKind.i64 j1, AV.int IntKind.i64 j2, AV.sl 2 k fun (i : Nat) => AV.agg [AV.int IntKind.i64 (p i).lo, AV.int IntKind.i64 (p i).hi]]), AObj.frow 2 h2d0 (Col.recs (List.map PD.av h2d1)).len fun (a : Nat) => (Col.recs (List.map PD.av h2d1)).get a]), .b true, .b true, .b true], kmp (by kernel_rfl) (And.intro h1 (And.intro (And.intro (rfl : AV.snil = AV.snil) (And.intro (rfl : (0 : Nat) = 0) trivial)) (And.intro (L27ab.e0 (m) (f) o0 (j1) (j2) (k) (p) o1 o2 o3 o4 o5 o6 o7 (a10) o8 o9 o10 o11 (0) (0) ([]) (And.intro (show (0 : Int) ≤ (0 : Int) by first | decide | exact Int.NonNeg.mk _) (And.intro o12 (show (0 : Int) ≤ (0 : Int) by first | decide | exact Int.NonNeg.mk _))) h2d0 h2d1 h2) (And.intro (show Weak 3 ([AV.agg [AV.ms 2 h2d0 2 0 (List.map PD.av h2d1).length, AV.int IntKind.i64 j1, AV.int IntKind.i64 j2, AV.sl 2 k fun (i : Nat) => AV.agg [AV.int IntKind.i64 (p i).lo, AV.int IntKind.i64 (p i).hi]]]) ([AObj.var (AV.agg [AV.int IntKind.i64 j1, AV.int IntKind.i64 j2]), AObj.var (AV.agg [AV.ms 2 h2d0 2 0 (List.map PD.av h2d1).length, AV.int IntKind.i64 j1, AV.int IntKind.i64 j2, AV.sl 2 k fun (i : Nat) => AV.agg [AV.int IntKind.i64 (p i).lo, AV.int IntKind.i64 (p i).hi]]), AObj.row 2 h2d0 (Col.recs (List.map PD.av h2d1))]) ([AV.agg [AV.sl 2 h2d1.length fun (i : Nat) => AV.agg [AV.int IntKind.i64 (rget h2d1 i).lo, AV.int IntKind.i64 (rget h2d1 i).hi], AV.int IntKind.i64 j1, AV.int IntKind.i64 j2, AV.sl 2 k fun (i : Nat) => AV.agg [AV.int IntKind.i64 (p i).lo, AV.int IntKind.i64 (p i).hi]]]) ([AObj.var (AV.agg [AV.int IntKind.i64 j1, AV.int IntKind.i64 j2]), AObj.var (AV.agg [AV.ms 2 h2d0 2 0 (List.map PD.av h2d1).length, AV.int IntKind.i64 j1, AV.int IntKind.i64 j2, AV.sl 2 k fun (i : Nat) => AV.agg [AV.int IntKind.i64 (p i).lo, AV.int IntKind.i64 (p i).hi]]), AObj.frow 2 h2d0 (Col.recs (List.map PD.av h2d1)).len fun (a : Nat) => (Col.recs (List.map PD.av h2d1)).get a]) from Weak.frz (id := 2) (n := h2d0) (sz := 2) (c := Col.recs (List.map PD.av h2d1)) rfl (And.intro (Or.inr ⟨_, _, rfl, rfl, (And.intro (frz_recs (av := PD.av) (L := h2d1) (by simp)) (And.intro (frz_same _) (And.intro (frz_same _) (And.intro (frz_same _) trivial))))⟩) trivial)) (And.intro (r18 (h2d1.length) (rget h2d1) o13 (j1) (j2) (k) (p) o1 ([AObj.var (AV.agg [AV.int IntKind.i64 j1, AV.int IntKind.i64 j2]), AObj.var (AV.agg [AV.ms 2 h2d0 2 0 (List.map PD.av h2d1).length, AV.int IntKind.i64 j1, AV.int IntKind.i64 j2, AV.sl 2 k fun (i : Nat) => AV.agg [AV.int IntKind.i64 (p i).lo, AV.int IntKind.i64 (p i).hi]]), AObj.frow 2 h2d0 (Col.recs (List.map PD.av h2d1)).len fun (a : Nat) => (Col.recs (List.map PD.av h2d1)).get a])) (And.intro h3 (And.intro h3 (And.intro h4 (L27a.en m f j1 j2 k p (k_ := k_) (z_ := a10) (h_ := [AObj.var (AV.agg [AV.int IntKind.i64 j1, AV.int IntKind.i64 j2]), AObj.var (AV.agg [AV.ms 2 h2d0 2 0 (List.map PD.av h2d1).length, AV.int IntKind.i64 j1, AV.int IntKind.i64 j2, AV.sl 2 k fun (i : Nat) => AV.agg [AV.int IntKind.i64 (p i).lo, AV.int IntKind.i64 (p i).hi]]), AObj.frow 2 h2d0 (Col.recs (List.map PD.av h2d1)).len fun (a : Nat) => (Col.recs (List.map PD.av h2d1)).get a]) (.e0 (a10) : L27a.O) (by first | (simp only [L27a.N, h1, h3, h4, h2, cond_true, cond_false]; done) | (try unfold L27a.N; try simp only [h1, cond_true, cond_false]; try simp only [h3, cond_true, cond_false]; try simp only [h4, cond_true, cond_false]; try simp only [h2, cond_true, cond_false]; try rfl; done)) (PopOk.pop rfl (by simp [L27a.T, L27a.X, L27a.H, L27a.XH])))))))))))⟩
        | false =>
          try have := IntWalk.i64_in (a10 - 1) (by omega)
          have o14 : IntKind.i64.wrap (a10 - (1 : Int)) ≤ (100 : Int) := by first | assumption | omega | (simp_all; done)
          have o15 : (-1 : Int) ≤ IntKind.i64.wrap (a10 - (1 : Int)) ∨ IntKind.i64.wrap (a10 - (1 : Int)) = (100 : Int) := by first | assumption | omega | (simp_all; done)
          have o16 : (IntKind.i64.wrap (a10 - (1 : Int)) - (-1 : Int)).toNat < (a10 - (-1 : Int)).toNat := by first | assumption | omega | (simp_all; done)
          exact ⟨[.b true, .virt [] [(some 1, 0, 2, Col.recs [])], .loop (others 73 [0, 2, 4, 10, 11, 43, 44, 45]) (Exit.exit 2) (L27ab.X m f j1 j2 k p a10 (L27ab.O.e0 h2d0 h2d1)) (L27ab.XH m f j1 j2 k p a10 (L27ab.O.e0 h2d0 h2d1)), .fret ([AV.agg [AV.sl 2 h2d1.length fun (i : Nat) => AV.agg [AV.int IntKind.i64 (rget h2d1 i).lo, AV.int IntKind.i64 (rget h2d1 i).hi], AV.int IntKind.i64 j1, AV.int IntKind.i64 j2, AV.sl 2 k fun (i : Nat) => AV.agg [AV.int IntKind.i64 (p i).lo, AV.int IntKind.i64 (p i).hi]]]) ([AObj.var (AV.agg [AV.int IntKind.i64 j1, AV.int IntKind.i64 j2]), AObj.var (AV.agg [AV.ms 2 h2d0 2 0 (List.map PD.av h2d1).length, AV.int IntKind.i64 j1, AV.int IntKind.i64 j2, AV.sl 2 k fun (i : Nat) => AV.agg [AV.int IntKind.i64 (p i).lo, AV.int IntKind.i64 (p i).hi]]), AObj.frow 2 h2d0 (Col.recs (List.map PD.av h2d1)).len fun (a : Nat) => (Col.recs (List.map PD.av h2d1)).get a]) (AV.tup [AV.bool (r18.v0 h2d1.length (rget h2d1) j1 j2 k p), AV.int IntKind.i64 (r18.v1 h2d1.length (rget h2d1) j1 j2 k p)]) ([AObj.var (AV.agg [AV.int IntKind.i64 j1, AV.int IntKind.i64 j2]), AObj.var (AV.agg [AV.ms 2 h2d0 2 0 (List.map PD.av h2d1).length, AV.int IntKind.i64 j1, AV.int IntKind.i64 j2, AV.sl 2 k fun (i : Nat) => AV.agg [AV.int IntKind.i64 (p i).lo, AV.int IntKind.i64 (p i).hi]]), AObj.frow 2 h2d0 (Col.recs (List.map PD.av h2d1)).len fun (a : Nat) => (Col.recs (List.map PD.av h2d1)).get a]), .b true, .b true, .b false], kmp (by kernel_rfl) (And.intro h1 (And.intro (And.intro (rfl : AV.snil = AV.snil) (And.intro (rfl : (0 : Nat) = 0) trivial)) (And.intro (L27ab.e0 (m) (f) o0 (j1) (j2) (k) (p) o1 o2 o3 o4 o5 o6 o7 (a10) o8 o9 o10 o11 (0) (0) ([]) (And.intro (show (0 : Int) ≤ (0 : Int) by first | decide | exact Int.NonNeg.mk _) (And.intro o12 (show (0 : Int) ≤ (0 : Int) by first | decide | exact Int.NonNeg.mk _))) h2d0 h2d1 h2) (And.intro (show Weak 3 ([AV.agg [AV.ms 2 h2d0 2 0 (List.map PD.av h2d1).length, AV.int IntKind.i64 j1, AV.int IntKind.i64 j2, AV.sl 2 k fun (i : Nat) => AV.agg [AV.int IntKind.i64 (p i).lo, AV.int IntKind.i64 (p i).hi]]]) ([AObj.var (AV.agg [AV.int IntKind.i64 j1, AV.int IntKind.i64 j2]), AObj.var (AV.agg [AV.ms 2 h2d0 2 0 (List.map PD.av h2d1).length, AV.int IntKind.i64 j1, AV.int IntKind.i64 j2, AV.sl 2 k fun (i : Nat) => AV.agg [AV.int IntKind.i64 (p i).lo, AV.int IntKind.i64 (p i).hi]]), AObj.row 2 h2d0 (Col.recs (List.map PD.av h2d1))]) ([AV.agg [AV.sl 2 h2d1.length fun (i : Nat) => AV.agg [AV.int IntKind.i64 (rget h2d1 i).lo, AV.int IntKind.i64 (rget h2d1 i).hi], AV.int IntKind.i64 j1, AV.int IntKind.i64 j2, AV.sl 2 k fun (i : Nat) => AV.agg [AV.int IntKind.i64 (p i).lo, AV.int IntKind.i64 (p i).hi]]]) ([AObj.var (AV.agg [AV.int IntKind.i64 j1, AV.int IntKind.i64 j2]), AObj.var (AV.agg [AV.ms 2 h2d0 2 0 (List.map PD.av h2d1).length, AV.int IntKind.i64 j1, AV.int IntKind.i64 j2, AV.sl 2 k fun (i : Nat) => AV.agg [AV.int IntKind.i64 (p i).lo, AV.int IntKind.i64 (p i).hi]]), AObj.frow 2 h2d0 (Col.recs (List.map PD.av h2d1)).len fun (a : Nat) => (Col.recs (List.map PD.av h2d1)).get a]) from Weak.frz (id := 2) (n := h2d0) (sz := 2) (c := Col.recs (List.map PD.av h2d1)) rfl (And.intro (Or.inr ⟨_, _, rfl, rfl, (And.intro (frz_recs (av := PD.av) (L := h2d1) (by simp)) (And.intro (frz_same _) (And.intro (frz_same _) (And.intro (frz_same _) trivial))))⟩) trivial)) (And.intro (r18 (h2d1.length) (rget h2d1) o13 (j1) (j2) (k) (p) o1 ([AObj.var (AV.agg [AV.int IntKind.i64 j1, AV.int IntKind.i64 j2]), AObj.var (AV.agg [AV.ms 2 h2d0 2 0 (List.map PD.av h2d1).length, AV.int IntKind.i64 j1, AV.int IntKind.i64 j2, AV.sl 2 k fun (i : Nat) => AV.agg [AV.int IntKind.i64 (p i).lo, AV.int IntKind.i64 (p i).hi]]), AObj.frow 2 h2d0 (Col.recs (List.map PD.av h2d1)).len fun (a : Nat) => (Col.recs (List.map PD.av h2d1)).get a])) (And.intro h3 (And.intro h3 (And.intro h4 (L27a.nx m f j1 j2 k p (k_ := k_) (z_ := a10) (h_ := [AObj.var (AV.agg [AV.int IntKind.i64 j1, AV.int IntKind.i64 j2]), AObj.var (AV.agg [AV.ms 2 h2d0 2 0 (List.map PD.av h2d1).length, AV.int IntKind.i64 j1, AV.int IntKind.i64 j2, AV.sl 2 k fun (i : Nat) => AV.agg [AV.int IntKind.i64 (p i).lo, AV.int IntKind.i64 (p i).hi]]), AObj.frow 2 h2d0 (Col.recs (List.map PD.av h2d1)).len fun (a : Nat) => (Col.recs (List.map PD.av h2d1)).get a]) (IntKind.i64.wrap (a10 - 1)) (And.intro o14 o15) o16 (by first | (simp only [L27a.N, h1, h3, h4, h2, cond_true, cond_false]; done) | (try unfold L27a.N; try simp only [h1, cond_true, cond_false]; try simp only [h3, cond_true, cond_false]; try simp only [h4, cond_true, cond_false]; try simp only [h2, cond_true, cond_false]; try rfl; done)) (PopOk.pop rfl (by simp [L27a.T, L27a.X, L27a.H, L27a.XH])))))))))))⟩
      | false =>
        have h3p := ne_of_beq_false h3
        try have := IntWalk.i64_in (a10 - 1) (by omega)
        have o14 : IntKind.i64.wrap (a10 - (1 : Int)) ≤ (100 : Int) := by first | assumption | omega | (simp_all; done)
        have o15 : (-1 : Int) ≤ IntKind.i64.wrap (a10 - (1 : Int)) ∨ IntKind.i64.wrap (a10 - (1 : Int)) = (100 : Int) := by first | assumption | omega | (simp_all; done)
        have o16 : (IntKind.i64.wrap (a10 - (1 : Int)) - (-1 : Int)).toNat < (a10 - (-1 : Int)).toNat := by first | assumption | omega | (simp_all; done)
        exact ⟨[.b true, .virt [] [(some 1, 0, 2, Col.recs [])], .loop (others 73 [0, 2, 4, 10, 11, 43, 44, 45]) (Exit.exit 2) (L27ab.X m f j1 j2 k p a10 (L27ab.O.e0 h2d0 h2d1)) (L27ab.XH m f j1 j2 k p a10 (L27ab.O.e0 h2d0 h2d1)), .fret ([AV.agg [AV.sl 2 h2d1.length fun (i : Nat) => AV.agg [AV.int IntKind.i64 (rget h2d1 i).lo, AV.int IntKind.i64 (rget h2d1 i).hi], AV.int IntKind.i64 j1, AV.int IntKind.i64 j2, AV.sl 2 k fun (i : Nat) => AV.agg [AV.int IntKind.i64 (p i).lo, AV.int IntKind.i64 (p i).hi]]]) ([AObj.var (AV.agg [AV.int IntKind.i64 j1, AV.int IntKind.i64 j2]), AObj.var (AV.agg [AV.ms 2 h2d0 2 0 (List.map PD.av h2d1).length, AV.int IntKind.i64 j1, AV.int IntKind.i64 j2, AV.sl 2 k fun (i : Nat) => AV.agg [AV.int IntKind.i64 (p i).lo, AV.int IntKind.i64 (p i).hi]]), AObj.frow 2 h2d0 (Col.recs (List.map PD.av h2d1)).len fun (a : Nat) => (Col.recs (List.map PD.av h2d1)).get a]) (AV.tup [AV.bool (r18.v0 h2d1.length (rget h2d1) j1 j2 k p), AV.int IntKind.i64 (r18.v1 h2d1.length (rget h2d1) j1 j2 k p)]) ([AObj.var (AV.agg [AV.int IntKind.i64 j1, AV.int IntKind.i64 j2]), AObj.var (AV.agg [AV.ms 2 h2d0 2 0 (List.map PD.av h2d1).length, AV.int IntKind.i64 j1, AV.int IntKind.i64 j2, AV.sl 2 k fun (i : Nat) => AV.agg [AV.int IntKind.i64 (p i).lo, AV.int IntKind.i64 (p i).hi]]), AObj.frow 2 h2d0 (Col.recs (List.map PD.av h2d1)).len fun (a : Nat) => (Col.recs (List.map PD.av h2d1)).get a]), .b false, .b false, .b false], kmp (by kernel_rfl) (And.intro h1 (And.intro (And.intro (rfl : AV.snil = AV.snil) (And.intro (rfl : (0 : Nat) = 0) trivial)) (And.intro (L27ab.e0 (m) (f) o0 (j1) (j2) (k) (p) o1 o2 o3 o4 o5 o6 o7 (a10) o8 o9 o10 o11 (0) (0) ([]) (And.intro (show (0 : Int) ≤ (0 : Int) by first | decide | exact Int.NonNeg.mk _) (And.intro o12 (show (0 : Int) ≤ (0 : Int) by first | decide | exact Int.NonNeg.mk _))) h2d0 h2d1 h2) (And.intro (show Weak 3 ([AV.agg [AV.ms 2 h2d0 2 0 (List.map PD.av h2d1).length, AV.int IntKind.i64 j1, AV.int IntKind.i64 j2, AV.sl 2 k fun (i : Nat) => AV.agg [AV.int IntKind.i64 (p i).lo, AV.int IntKind.i64 (p i).hi]]]) ([AObj.var (AV.agg [AV.int IntKind.i64 j1, AV.int IntKind.i64 j2]), AObj.var (AV.agg [AV.ms 2 h2d0 2 0 (List.map PD.av h2d1).length, AV.int IntKind.i64 j1, AV.int IntKind.i64 j2, AV.sl 2 k fun (i : Nat) => AV.agg [AV.int IntKind.i64 (p i).lo, AV.int IntKind.i64 (p i).hi]]), AObj.row 2 h2d0 (Col.recs (List.map PD.av h2d1))]) ([AV.agg [AV.sl 2 h2d1.length fun (i : Nat) => AV.agg [AV.int IntKind.i64 (rget h2d1 i).lo, AV.int IntKind.i64 (rget h2d1 i).hi], AV.int IntKind.i64 j1, AV.int IntKind.i64 j2, AV.sl 2 k fun (i : Nat) => AV.agg [AV.int IntKind.i64 (p i).lo, AV.int IntKind.i64 (p i).hi]]]) ([AObj.var (AV.agg [AV.int IntKind.i64 j1, AV.int IntKind.i64 j2]), AObj.var (AV.agg [AV.ms 2 h2d0 2 0 (List.map PD.av h2d1).length, AV.int IntKind.i64 j1, AV.int IntKind.i64 j2, AV.sl 2 k fun (i : Nat) => AV.agg [AV.int IntKind.i64 (p i).lo, AV.int IntKind.i64 (p i).hi]]), AObj.frow 2 h2d0 (Col.recs (List.map PD.av h2d1)).len fun (a : Nat) => (Col.recs (List.map PD.av h2d1)).get a]) from Weak.frz (id := 2) (n := h2d0) (sz := 2) (c := Col.recs (List.map PD.av h2d1)) rfl (And.intro (Or.inr ⟨_, _, rfl, rfl, (And.intro (frz_recs (av := PD.av) (L := h2d1) (by simp)) (And.intro (frz_same _) (And.intro (frz_same _) (And.intro (frz_same _) trivial))))⟩) trivial)) (And.intro (r18 (h2d1.length) (rget h2d1) o13 (j1) (j2) (k) (p) o1 ([AObj.var (AV.agg [AV.int IntKind.i64 j1, AV.int IntKind.i64 j2]), AObj.var (AV.agg [AV.ms 2 h2d0 2 0 (List.map PD.av h2d1).length, AV.int IntKind.i64 j1, AV.int IntKind.i64 j2, AV.sl 2 k fun (i : Nat) => AV.agg [AV.int IntKind.i64 (p i).lo, AV.int IntKind.i64 (p i).hi]]), AObj.frow 2 h2d0 (Col.recs (List.map PD.av h2d1)).len fun (a : Nat) => (Col.recs (List.map PD.av h2d1)).get a])) (And.intro h3 (And.intro h3 (And.intro (rfl : false = false) (L27a.nx m f j1 j2 k p (k_ := k_) (z_ := a10) (h_ := [AObj.var (AV.agg [AV.int IntKind.i64 j1, AV.int IntKind.i64 j2]), AObj.var (AV.agg [AV.ms 2 h2d0 2 0 (List.map PD.av h2d1).length, AV.int IntKind.i64 j1, AV.int IntKind.i64 j2, AV.sl 2 k fun (i : Nat) => AV.agg [AV.int IntKind.i64 (p i).lo, AV.int IntKind.i64 (p i).hi]]), AObj.frow 2 h2d0 (Col.recs (List.map PD.av h2d1)).len fun (a : Nat) => (Col.recs (List.map PD.av h2d1)).get a]) (IntKind.i64.wrap (a10 - 1)) (And.intro o14 o15) o16 (by first | (simp only [L27a.N, h1, h3, h2, cond_true, cond_false]; done) | (try unfold L27a.N; try simp only [h1, cond_true, cond_false]; try simp only [h3, cond_true, cond_false]; try simp only [h2, cond_true, cond_false]; try rfl; done)) (PopOk.pop rfl (by simp [L27a.T, L27a.X, L27a.H, L27a.XH])))))))))))⟩
  | false =>
    have h1p := of_decide_eq_false h1
    exact ⟨[.b false], kmp (by kernel_rfl) (And.intro h1 (L27a.en m f j1 j2 k p (k_ := k_) (z_ := a10) (.e1 : L27a.O) (by first | (simp only [L27a.N, h1, cond_true, cond_false]; done) | (try unfold L27a.N; try simp only [h1, cond_true, cond_false]; try rfl; done)) PopOk.same))⟩
theorem L27a.e0 (m : Nat) (f : Nat → Int) (hm : m ≤ 30) (j1 : Int) (j2 : Int) (k : Nat) (p : Nat → PD) (hk : k ≤ 30) (k0_1 : (r36.v (↑m : Int) == 0) = true) (p0_1 : r36.v (↑m : Int) = 0) (k0_2 : r50.v m f = false) (k0_3 : r39.v j1 j2 = true) (k0_4 : (r40.v k p (↑m : Int) == 0) = true) (p0_4 : r40.v k p (↑m : Int) = 0) (a10 : Int) (hinv : L27a.inv m f j1 j2 k p a10) (a0 : Int) (hN : L27a.run m f j1 j2 k p a10 = (.e0 a0 : L27a.O)) : LoopTo Try.prog (loopN Try.f27 0) (L27a.T m f j1 j2 k p a10) (L27a.H m f j1 j2 k p a10) (Exit.ret) (L27a.X m f j1 j2 k p (.e0 a0 : L27a.O)) (L27a.XH m f j1 j2 k p (.e0 a0 : L27a.O)) := by
  have h_ := L27a.spec m f hm j1 j2 k p hk k0_1 p0_1 k0_2 k0_3 k0_4 p0_4 (((a10 - (0 - 1)).toNat) + 1) a10 hinv (Nat.lt_succ_self _)
  unfold L27a.run at hN
  simp only [hN] at h_
  exact h_
theorem L27a.e1 (m : Nat) (f : Nat → Int) (hm : m ≤ 30) (j1 : Int) (j2 : Int) (k : Nat) (p : Nat → PD) (hk : k ≤ 30) (k0_1 : (r36.v (↑m : Int) == 0) = true) (p0_1 : r36.v (↑m : Int) = 0) (k0_2 : r50.v m f = false) (k0_3 : r39.v j1 j2 = true) (k0_4 : (r40.v k p (↑m : Int) == 0) = true) (p0_4 : r40.v k p (↑m : Int) = 0) (a10 : Int) (hinv : L27a.inv m f j1 j2 k p a10) (hN : L27a.run m f j1 j2 k p a10 = (.e1 : L27a.O)) : LoopTo Try.prog (loopN Try.f27 0) (L27a.T m f j1 j2 k p a10) (L27a.H m f j1 j2 k p a10) (Exit.exit 0) (L27a.X m f j1 j2 k p (.e1 : L27a.O)) (L27a.XH m f j1 j2 k p (.e1 : L27a.O)) := by
  have h_ := L27a.spec m f hm j1 j2 k p hk k0_1 p0_1 k0_2 k0_3 k0_4 p0_4 (((a10 - (0 - 1)).toNat) + 1) a10 hinv (Nat.lt_succ_self _)
  unfold L27a.run at hN
  simp only [hN] at h_
  exact h_

noncomputable def r27.v0 (m : Nat) (f : Nat → Int) (j1 : Int) (j2 : Int) (k : Nat) (p : Nat → PD) : Int := (bif r36.v (↑m : Int) == 0 then (bif r50.v m f then 0 else (bif r39.v j1 j2 then (bif r40.v k p (↑m : Int) == 0 then (match L27a.run m f j1 j2 k p 100 with | .e0 h5d0 => h5d0 | .e1 => 0 ) else 0) else 0)) else 0)
noncomputable def r27.v1 (m : Nat) (f : Nat → Int) (j1 : Int) (j2 : Int) (k : Nat) (p : Nat → PD) : Int := (bif r36.v (↑m : Int) == 0 then (bif r50.v m f then 6 else (bif r39.v j1 j2 then (bif r40.v k p (↑m : Int) == 0 then (match L27a.run m f j1 j2 k p 100 with | .e0 h5d0 => 0 | .e1 => 9 ) else r40.v k p (↑m : Int)) else 6)) else r36.v (↑m : Int))
noncomputable abbrev r27.h0 (m : Nat) (f : Nat → Int) (j1 : Int) (j2 : Int) (k : Nat) (p : Nat → PD) : AHeap := ([AObj.var (AV.agg [AV.int IntKind.i64 j1, AV.int IntKind.i64 j2])])
theorem r27 (m : Nat) (f : Nat → Int) (hm : m ≤ 30) (j1 : Int) (j2 : Int) (k : Nat) (p : Nat → PD) (hk : k ≤ 30) (h : AHeap) : Ret Try.prog 27 ([ivs' m f, AV.agg [AV.int IntKind.i64 j1, AV.int IntKind.i64 j2], prs k p]) h (AV.tup [(AV.int IntKind.i64 (r27.v0 m f j1 j2 k p)), (AV.int IntKind.i64 (r27.v1 m f j1 j2 k p))]) h := by
  cases h1 : r36.v (↑m : Int) == 0 with
  | true =>
    have h1p := eq_of_beq h1
    have o0 : m ≤ (9223372036854775807 : Nat) := by first | assumption | omega | (simp_all; done)
    cases h2 : r50.v m f with
    | true =>
      exact Ret.of_run1 mix [(AV.int IntKind.i64 (r27.v0 m f j1 j2 k p)), (AV.int IntKind.i64 (r27.v1 m f j1 j2 k p))] Try.func27 rfl [.ret (AV.int IntKind.i64 (r36.v (↑m : Int))) (r27.h0 m f j1 j2 k p), .b false, .ret (AV.bool (r50.v m f)) (r27.h0 m f j1 j2 k p), .b true, .b true, .b true, .b true, .b true] (by simp) (by simp) (kmp (by kernel_rfl) (And.intro (r36 ((↑m : Int)) (r27.h0 m f j1 j2 k p)) (And.intro (show (bnot (r36.v (↑m : Int) == 0)) = false by rw [h1]; try rfl) (And.intro (r50 (m) (f) o0 (r27.h0 m f j1 j2 k p)) (And.intro h2 (And.intro h2 (And.intro h2 (And.intro h2 (And.intro (rfl : true = true) (And.intro (show (AV.int IntKind.i64 0) = ((AV.int IntKind.i64 (r27.v0 m f j1 j2 k p))) by first | (simp only [r27.v0, r27.v1, h1, h2, cond_true, cond_false]; done) | (try unfold r27.v0; try unfold r27.v1; try simp only [h1, cond_true, cond_false]; try simp only [h2, cond_true, cond_false]; try rfl; done) | rfl) (And.intro (show (AV.int IntKind.i64 6) = ((AV.int IntKind.i64 (r27.v1 m f j1 j2 k p))) by first | (simp only [r27.v0, r27.v1, h1, h2, cond_true, cond_false]; done) | (try unfold r27.v0; try unfold r27.v1; try simp only [h1, cond_true, cond_false]; try simp only [h2, cond_true, cond_false]; try rfl; done) | rfl) trivial))))))))))) h
    | false =>
      cases h3 : r39.v j1 j2 with
      | true =>
        have o1 : k ≤ (9223372036854775807 : Nat) := by first | assumption | omega | (simp_all; done)
        cases h4 : r40.v k p (↑m : Int) == 0 with
        | true =>
          have h4p := eq_of_beq h4
          have o2 : m ≤ (30 : Nat) := by first | assumption | omega | (simp_all; done)
          have o3 : k ≤ (30 : Nat) := by first | assumption | omega | (simp_all; done)
          have o4 : (r36.v (↑m : Int) == (0 : Int)) = true := by first | assumption | omega | (simp_all; done)
          have o5 : r36.v (↑m : Int) = (0 : Int) := by first | assumption | omega | (simp_all; done)
          have o6 : r50.v m f = false := by first | assumption | omega | (simp_all; done)
          have o7 : r39.v j1 j2 = true := by first | assumption | omega | (simp_all; done)
          have o8 : (r40.v k p (↑m : Int) == (0 : Int)) = true := by first | assumption | omega | (simp_all; done)
          have o9 : r40.v k p (↑m : Int) = (0 : Int) := by first | assumption | omega | (simp_all; done)
          cases h5 : L27a.run m f j1 j2 k p 100 with
          | e0 h5d0 =>
            exact Ret.of_run1 mix [(AV.int IntKind.i64 (r27.v0 m f j1 j2 k p)), (AV.int IntKind.i64 (r27.v1 m f j1 j2 k p))] Try.func27 rfl [.ret (AV.int IntKind.i64 (r36.v (↑m : Int))) (r27.h0 m f j1 j2 k p), .b false, .ret (AV.bool (r50.v m f)) (r27.h0 m f j1 j2 k p), .b false, .b false, .ret (AV.bool (r39.v j1 j2)) (r27.h0 m f j1 j2 k p), .b false, .b false, .b false, .ret (AV.int IntKind.i64 (r40.v k p (↑m : Int))) (r27.h0 m f j1 j2 k p), .b false, .loop (others 73 [0, 2, 4, 10]) (Exit.ret) (L27a.X m f j1 j2 k p (L27a.O.e0 h5d0)) (L27a.XH m f j1 j2 k p (L27a.O.e0 h5d0))] (by simp) (by simp) (kmp (by kernel_rfl) (And.intro (r36 ((↑m : Int)) (r27.h0 m f j1 j2 k p)) (And.intro (show (bnot (r36.v (↑m : Int) == 0)) = false by rw [h1]; try rfl) (And.intro (r50 (m) (f) o0 (r27.h0 m f j1 j2 k p)) (And.intro h2 (And.intro h2 (And.intro (r39 (j1) (j2) (r27.h0 m f j1 j2 k p)) (And.intro h2 (And.intro h2 (And.intro (show (bnot (r39.v j1 j2)) = false by rw [h3]; try rfl) (And.intro (r40 (k) (p) o1 ((↑m : Int)) (r27.h0 m f j1 j2 k p)) (And.intro (show (bnot (r40.v k p (↑m : Int) == 0)) = false by rw [h4]; try rfl) (And.intro (L27a.e0 (m) (f) o2 (j1) (j2) (k) (p) o3 o4 o5 o6 o7 o8 o9 (100) (And.intro (show (100 : Int) ≤ (100 : Int) by first | decide | exact Int.NonNeg.mk _) (show (-1 : Int) ≤ (100 : Int) ∨ (100 : Int) = (100 : Int) by first | decide | exact Int.NonNeg.mk _)) h5d0 h5) (And.intro (show (AV.int IntKind.i64 h5d0) = ((AV.int IntKind.i64 (r27.v0 m f j1 j2 k p))) by first | (simp only [r27.v0, r27.v1, h1, h2, h3, h4, h5, cond_true, cond_false]; done) | (try unfold r27.v0; try unfold r27.v1; try simp only [h1, cond_true, cond_false]; try simp only [h2, cond_true, cond_false]; try simp only [h3, cond_true, cond_false]; try simp only [h4, cond_true, cond_false]; try simp only [h5, cond_true, cond_false]; try rfl; done) | rfl) (And.intro (show (AV.int IntKind.i64 0) = ((AV.int IntKind.i64 (r27.v1 m f j1 j2 k p))) by first | (simp only [r27.v0, r27.v1, h1, h2, h3, h4, h5, cond_true, cond_false]; done) | (try unfold r27.v0; try unfold r27.v1; try simp only [h1, cond_true, cond_false]; try simp only [h2, cond_true, cond_false]; try simp only [h3, cond_true, cond_false]; try simp only [h4, cond_true, cond_false]; try simp only [h5, cond_true, cond_false]; try rfl; done) | rfl) trivial))))))))))))))) h
          | e1 =>
            exact Ret.of_run1 mix [(AV.int IntKind.i64 (r27.v0 m f j1 j2 k p)), (AV.int IntKind.i64 (r27.v1 m f j1 j2 k p))] Try.func27 rfl [.ret (AV.int IntKind.i64 (r36.v (↑m : Int))) (r27.h0 m f j1 j2 k p), .b false, .ret (AV.bool (r50.v m f)) (r27.h0 m f j1 j2 k p), .b false, .b false, .ret (AV.bool (r39.v j1 j2)) (r27.h0 m f j1 j2 k p), .b false, .b false, .b false, .ret (AV.int IntKind.i64 (r40.v k p (↑m : Int))) (r27.h0 m f j1 j2 k p), .b false, .loop (others 73 [0, 2, 4, 10]) (Exit.exit 0) (L27a.X m f j1 j2 k p L27a.O.e1) (L27a.XH m f j1 j2 k p L27a.O.e1)] (by simp) (by simp) (kmp (by kernel_rfl) (And.intro (r36 ((↑m : Int)) (r27.h0 m f j1 j2 k p)) (And.intro (show (bnot (r36.v (↑m : Int) == 0)) = false by rw [h1]; try rfl) (And.intro (r50 (m) (f) o0 (r27.h0 m f j1 j2 k p)) (And.intro h2 (And.intro h2 (And.intro (r39 (j1) (j2) (r27.h0 m f j1 j2 k p)) (And.intro h2 (And.intro h2 (And.intro (show (bnot (r39.v j1 j2)) = false by rw [h3]; try rfl) (And.intro (r40 (k) (p) o1 ((↑m : Int)) (r27.h0 m f j1 j2 k p)) (And.intro (show (bnot (r40.v k p (↑m : Int) == 0)) = false by rw [h4]; try rfl) (And.intro (L27a.e1 (m) (f) o2 (j1) (j2) (k) (p) o3 o4 o5 o6 o7 o8 o9 (100) (And.intro (show (100 : Int) ≤ (100 : Int) by first | decide | exact Int.NonNeg.mk _) (show (-1 : Int) ≤ (100 : Int) ∨ (100 : Int) = (100 : Int) by first | decide | exact Int.NonNeg.mk _)) h5) (And.intro (show (AV.int IntKind.i64 0) = ((AV.int IntKind.i64 (r27.v0 m f j1 j2 k p))) by first | (simp only [r27.v0, r27.v1, h1, h2, h3, h4, h5, cond_true, cond_false]; done) | (try unfold r27.v0; try unfold r27.v1; try simp only [h1, cond_true, cond_false]; try simp only [h2, cond_true, cond_false]; try simp only [h3, cond_true, cond_false]; try simp only [h4, cond_true, cond_false]; try simp only [h5, cond_true, cond_false]; try rfl; done) | rfl) (And.intro (show (AV.int IntKind.i64 9) = ((AV.int IntKind.i64 (r27.v1 m f j1 j2 k p))) by first | (simp only [r27.v0, r27.v1, h1, h2, h3, h4, h5, cond_true, cond_false]; done) | (try unfold r27.v0; try unfold r27.v1; try simp only [h1, cond_true, cond_false]; try simp only [h2, cond_true, cond_false]; try simp only [h3, cond_true, cond_false]; try simp only [h4, cond_true, cond_false]; try simp only [h5, cond_true, cond_false]; try rfl; done) | rfl) trivial))))))))))))))) h
        | false =>
          have h4p := ne_of_beq_false h4
          exact Ret.of_run1 mix [(AV.int IntKind.i64 (r27.v0 m f j1 j2 k p)), (AV.int IntKind.i64 (r27.v1 m f j1 j2 k p))] Try.func27 rfl [.ret (AV.int IntKind.i64 (r36.v (↑m : Int))) (r27.h0 m f j1 j2 k p), .b false, .ret (AV.bool (r50.v m f)) (r27.h0 m f j1 j2 k p), .b false, .b false, .ret (AV.bool (r39.v j1 j2)) (r27.h0 m f j1 j2 k p), .b false, .b false, .b false, .ret (AV.int IntKind.i64 (r40.v k p (↑m : Int))) (r27.h0 m f j1 j2 k p), .b true] (by simp) (by simp) (kmp (by kernel_rfl) (And.intro (r36 ((↑m : Int)) (r27.h0 m f j1 j2 k p)) (And.intro (show (bnot (r36.v (↑m : Int) == 0)) = false by rw [h1]; try rfl) (And.intro (r50 (m) (f) o0 (r27.h0 m f j1 j2 k p)) (And.intro h2 (And.intro h2 (And.intro (r39 (j1) (j2) (r27.h0 m f j1 j2 k p)) (And.intro h2 (And.intro h2 (And.intro (show (bnot (r39.v j1 j2)) = false by rw [h3]; try rfl) (And.intro (r40 (k) (p) o1 ((↑m : Int)) (r27.h0 m f j1 j2 k p)) (And.intro (show (bnot (r40.v k p (↑m : Int) == 0)) = true by rw [h4]; try rfl) (And.intro (show (AV.int IntKind.i64 0) = ((AV.int IntKind.i64 (r27.v0 m f j1 j2 k p))) by first | (simp only [r27.v0, r27.v1, h1, h2, h3, h4, cond_true, cond_false]; done) | (try unfold r27.v0; try unfold r27.v1; try simp only [h1, cond_true, cond_false]; try simp only [h2, cond_true, cond_false]; try simp only [h3, cond_true, cond_false]; try simp only [h4, cond_true, cond_false]; try rfl; done) | rfl) (And.intro (show (AV.int IntKind.i64 (r40.v k p (↑m : Int))) = ((AV.int IntKind.i64 (r27.v1 m f j1 j2 k p))) by first | (simp only [r27.v0, r27.v1, h1, h2, h3, h4, cond_true, cond_false]; done) | (try unfold r27.v0; try unfold r27.v1; try simp only [h1, cond_true, cond_false]; try simp only [h2, cond_true, cond_false]; try simp only [h3, cond_true, cond_false]; try simp only [h4, cond_true, cond_false]; try rfl; done) | rfl) trivial)))))))))))))) h
      | false =>
        exact Ret.of_run1 mix [(AV.int IntKind.i64 (r27.v0 m f j1 j2 k p)), (AV.int IntKind.i64 (r27.v1 m f j1 j2 k p))] Try.func27 rfl [.ret (AV.int IntKind.i64 (r36.v (↑m : Int))) (r27.h0 m f j1 j2 k p), .b false, .ret (AV.bool (r50.v m f)) (r27.h0 m f j1 j2 k p), .b false, .b false, .ret (AV.bool (r39.v j1 j2)) (r27.h0 m f j1 j2 k p), .b false, .b false, .b true] (by simp) (by simp) (kmp (by kernel_rfl) (And.intro (r36 ((↑m : Int)) (r27.h0 m f j1 j2 k p)) (And.intro (show (bnot (r36.v (↑m : Int) == 0)) = false by rw [h1]; try rfl) (And.intro (r50 (m) (f) o0 (r27.h0 m f j1 j2 k p)) (And.intro h2 (And.intro h2 (And.intro (r39 (j1) (j2) (r27.h0 m f j1 j2 k p)) (And.intro h2 (And.intro h2 (And.intro (show (bnot (r39.v j1 j2)) = true by rw [h3]; try rfl) (And.intro (show (AV.int IntKind.i64 0) = ((AV.int IntKind.i64 (r27.v0 m f j1 j2 k p))) by first | (simp only [r27.v0, r27.v1, h1, h2, h3, cond_true, cond_false]; done) | (try unfold r27.v0; try unfold r27.v1; try simp only [h1, cond_true, cond_false]; try simp only [h2, cond_true, cond_false]; try simp only [h3, cond_true, cond_false]; try rfl; done) | rfl) (And.intro (show (AV.int IntKind.i64 6) = ((AV.int IntKind.i64 (r27.v1 m f j1 j2 k p))) by first | (simp only [r27.v0, r27.v1, h1, h2, h3, cond_true, cond_false]; done) | (try unfold r27.v0; try unfold r27.v1; try simp only [h1, cond_true, cond_false]; try simp only [h2, cond_true, cond_false]; try simp only [h3, cond_true, cond_false]; try rfl; done) | rfl) trivial)))))))))))) h
  | false =>
    have h1p := ne_of_beq_false h1
    exact Ret.of_run1 mix [(AV.int IntKind.i64 (r27.v0 m f j1 j2 k p)), (AV.int IntKind.i64 (r27.v1 m f j1 j2 k p))] Try.func27 rfl [.ret (AV.int IntKind.i64 (r36.v (↑m : Int))) (r27.h0 m f j1 j2 k p), .b true] (by simp) (by simp) (kmp (by kernel_rfl) (And.intro (r36 ((↑m : Int)) (r27.h0 m f j1 j2 k p)) (And.intro (show (bnot (r36.v (↑m : Int) == 0)) = true by rw [h1]; try rfl) (And.intro (show (AV.int IntKind.i64 0) = ((AV.int IntKind.i64 (r27.v0 m f j1 j2 k p))) by first | (simp only [r27.v0, r27.v1, h1, cond_true, cond_false]; done) | (try unfold r27.v0; try unfold r27.v1; try simp only [h1, cond_true, cond_false]; try rfl; done) | rfl) (And.intro (show (AV.int IntKind.i64 (r36.v (↑m : Int))) = ((AV.int IntKind.i64 (r27.v1 m f j1 j2 k p))) by first | (simp only [r27.v0, r27.v1, h1, cond_true, cond_false]; done) | (try unfold r27.v0; try unfold r27.v1; try simp only [h1, cond_true, cond_false]; try rfl; done) | rfl) trivial))))) h

end Go.Proofs.Ytjdakdjgkpfjkaa

/- the tolerance seat's contracts: the reference's Greatest, the law's pick and three. -/
open Go
namespace Go.Proofs.Ytjdakdjgkpfjkaa
set_option linter.unusedSimpArgs false
set_option linter.unusedVariables false
set_option maxHeartbeats 0
set_option maxRecDepth 100000
inductive L52a.O where
  | e0 (a0 : Nat) (a1 : List PD)
noncomputable def L52a.T (m : Nat) (f : Nat → Int) (j1 : Int) (j2 : Int) (k : Nat) (p : Nat → PD) (t : Int) (a10 : Int) (av2_0 : Nat) (al2_0 : List PD) : List AV := mkT 39 [(0, AV.sl 1 m fun (i : Nat) => AV.int IntKind.i64 (f i)), (3, AV.int IntKind.i64 t), (8, AV.ptr 1 1 4 0 0), (9, AV.ptr 2 1 4 0 0), (10, AV.int IntKind.i64 a10)]
noncomputable def L52a.H (m : Nat) (f : Nat → Int) (j1 : Int) (j2 : Int) (k : Nat) (p : Nat → PD) (t : Int) (a10 : Int) (av2_0 : Nat) (al2_0 : List PD) : AHeap := [AObj.dead, AObj.var (AV.agg [AV.snil, AV.int IntKind.i64 0, AV.int IntKind.i64 0, AV.snil]), AObj.var (AV.agg [AV.ms 3 av2_0 2 0 (List.map PD.av al2_0).length, AV.int IntKind.i64 j1, AV.int IntKind.i64 j2, AV.sl 2 k fun (i : Nat) => AV.agg [AV.int IntKind.i64 (p i).lo, AV.int IntKind.i64 (p i).hi]]), AObj.row 2 av2_0 (Col.recs (List.map PD.av al2_0))]
def L52a.inv (m : Nat) (f : Nat → Int) (j1 : Int) (j2 : Int) (k : Nat) (p : Nat → PD) (t : Int) (a10 : Int) (av2_0 : Nat) (al2_0 : List PD) : Prop := 0 ≤ a10 ∧ (a10 ≤ (↑m : Int) ∨ a10 ≤ 0) ∧ (↑al2_0.length : Int) ≤ a10 - 0
noncomputable def L52a.mu (m : Nat) (f : Nat → Int) (j1 : Int) (j2 : Int) (k : Nat) (p : Nat → PD) (t : Int) (a10 : Int) (av2_0 : Nat) (al2_0 : List PD) : Nat := ((↑m : Int) - a10).toNat
noncomputable def L52a.E : L52a.O → Exit
  | .e0 a0 a1 => Exit.exit 0
noncomputable def L52a.X (m : Nat) (f : Nat → Int) (j1 : Int) (j2 : Int) (k : Nat) (p : Nat → PD) (t : Int) : L52a.O → List AV
  | .e0 a0 a1 => mkT 39 [(8, (AV.ptr 1 1 4 0 0)), (9, (AV.ptr 2 1 4 0 0))]
noncomputable def L52a.XH (m : Nat) (f : Nat → Int) (j1 : Int) (j2 : Int) (k : Nat) (p : Nat → PD) (t : Int) : L52a.O → AHeap
  | .e0 a0 a1 => ((AObj.dead) :: ((AObj.var (AV.agg [AV.snil, AV.int IntKind.i64 0, AV.int IntKind.i64 0, AV.snil])) :: ((AObj.var (AV.agg ((AV.ms 3 a0 2 0 (List.length (List.map PD.av a1))) :: ([AV.int IntKind.i64 j1, AV.int IntKind.i64 j2, AV.sl 2 k fun (i : Nat) => AV.agg [AV.int IntKind.i64 (p i).lo, AV.int IntKind.i64 (p i).hi]])))) :: ((AObj.row 2 a0 (Col.recs (List.map PD.av a1))) :: ([])))))
noncomputable def L52a.N (m : Nat) (f : Nat → Int) (t : Int) : Nat → Int → Nat → (List PD) → L52a.O
  | 0, _, _, _ => .e0 default default
  | k_ + 1, a10, av2_0, al2_0 => (bif decide (a10 < (↑m : Int)) then (L52a.N m f t k_ (IntKind.i64.wrap (a10 + 1)) (av2_0 + 1) (PD.mk (IntKind.i64.wrap (f a10.toNat - t)) (IntKind.i64.wrap (f a10.toNat + t)) :: al2_0)) else (.e0 (av2_0) (al2_0)))
noncomputable def L52a.run (m : Nat) (f : Nat → Int) (t : Int) (a10 : Int) (av2_0 : Nat) (al2_0 : List PD) : L52a.O := L52a.N m f t ((((↑m : Int) - a10).toNat) + 1) a10 av2_0 al2_0
def L52a.Next (m : Nat) (f : Nat → Int) (j1 : Int) (j2 : Int) (k : Nat) (p : Nat → PD) (t : Int) (k_ : Nat) (z_ : Int × Nat × (List PD)) (T_ : List AV) (h_ : AHeap) : Prop := LNextP (fun (z_ : Int × Nat × (List PD)) => L52a.T m f j1 j2 k p t z_.1 z_.2.1 z_.2.2) (fun (z_ : Int × Nat × (List PD)) => L52a.H m f j1 j2 k p t z_.1 z_.2.1 z_.2.2) (fun (z_ : Int × Nat × (List PD)) => L52a.inv m f j1 j2 k p t z_.1 z_.2.1 z_.2.2) (fun (z_ : Int × Nat × (List PD)) => L52a.mu m f j1 j2 k p t z_.1 z_.2.1 z_.2.2) (fun (k_ : Nat) (z_ : Int × Nat × (List PD)) => L52a.N m f t k_ z_.1 z_.2.1 z_.2.2) k_ z_ T_ h_
def L52a.End (m : Nat) (f : Nat → Int) (j1 : Int) (j2 : Int) (k : Nat) (p : Nat → PD) (t : Int) (k_ : Nat) (z_ : Int × Nat × (List PD)) (e_ : Exit) (T_ : List AV) (h_ : AHeap) : Prop := LEndP (fun (z_ : Int × Nat × (List PD)) => L52a.H m f j1 j2 k p t z_.1 z_.2.1 z_.2.2) (fun (k_ : Nat) (z_ : Int × Nat × (List PD)) => L52a.N m f t k_ z_.1 z_.2.1 z_.2.2) L52a.E (L52a.X m f j1 j2 k p t) (L52a.XH m f j1 j2 k p t) k_ z_ e_ T_ h_
theorem L52a.nx (m : Nat) (f : Nat → Int) (j1 : Int) (j2 : Int) (k : Nat) (p : Nat → PD) (t : Int) {k_ : Nat} {z_ : Int × Nat × (List PD)} {h_ : AHeap} (s_ : Int × Nat × (List PD)) (h1 : L52a.inv m f j1 j2 k p t s_.1 s_.2.1 s_.2.2) (h2 : L52a.mu m f j1 j2 k p t s_.1 s_.2.1 s_.2.2 < L52a.mu m f j1 j2 k p t z_.1 z_.2.1 z_.2.2) (h3 : L52a.N m f t k_ s_.1 s_.2.1 s_.2.2 = L52a.N m f t (k_ + 1) z_.1 z_.2.1 z_.2.2) (h4 : PopOk (L52a.H m f j1 j2 k p t z_.1 z_.2.1 z_.2.2) h_ (L52a.T m f j1 j2 k p t s_.1 s_.2.1 s_.2.2) (L52a.H m f j1 j2 k p t s_.1 s_.2.1 s_.2.2)) : LNextP (fun (z_ : Int × Nat × (List PD)) => L52a.T m f j1 j2 k p t z_.1 z_.2.1 z_.2.2) (fun (z_ : Int × Nat × (List PD)) => L52a.H m f j1 j2 k p t z_.1 z_.2.1 z_.2.2) (fun (z_ : Int × Nat × (List PD)) => L52a.inv m f j1 j2 k p t z_.1 z_.2.1 z_.2.2) (fun (z_ : Int × Nat × (List PD)) => L52a.mu m f j1 j2 k p t z_.1 z_.2.1 z_.2.2) (fun (k_ : Nat) (z_ : Int × Nat × (List PD)) => L52a.N m f t k_ z_.1 z_.2.1 z_.2.2) k_ z_ (L52a.T m f j1 j2 k p t s_.1 s_.2.1 s_.2.2) h_ := LNextP.mk (Tm := (fun (z_ : Int × Nat × (List PD)) => L52a.T m f j1 j2 k p t z_.1 z_.2.1 z_.2.2)) (Hp := (fun (z_ : Int × Nat × (List PD)) => L52a.H m f j1 j2 k p t z_.1 z_.2.1 z_.2.2)) (inv := (fun (z_ : Int × Nat × (List PD)) => L52a.inv m f j1 j2 k p t z_.1 z_.2.1 z_.2.2)) (mu := (fun (z_ : Int × Nat × (List PD)) => L52a.mu m f j1 j2 k p t z_.1 z_.2.1 z_.2.2)) (l := (fun (k_ : Nat) (z_ : Int × Nat × (List PD)) => L52a.N m f t k_ z_.1 z_.2.1 z_.2.2)) s_ h1 h2 h3 h4
theorem L52a.en (m : Nat) (f : Nat → Int) (j1 : Int) (j2 : Int) (k : Nat) (p : Nat → PD) (t : Int) {k_ : Nat} {z_ : Int × Nat × (List PD)} {h_ : AHeap} (o_ : L52a.O) (h3 : L52a.N m f t (k_ + 1) z_.1 z_.2.1 z_.2.2 = o_) (h4 : PopOk (L52a.H m f j1 j2 k p t z_.1 z_.2.1 z_.2.2) h_ (L52a.X m f j1 j2 k p t o_) (L52a.XH m f j1 j2 k p t o_)) : LEndP (fun (z_ : Int × Nat × (List PD)) => L52a.H m f j1 j2 k p t z_.1 z_.2.1 z_.2.2) (fun (k_ : Nat) (z_ : Int × Nat × (List PD)) => L52a.N m f t k_ z_.1 z_.2.1 z_.2.2) L52a.E (L52a.X m f j1 j2 k p t) (L52a.XH m f j1 j2 k p t) k_ z_ (L52a.E o_) (L52a.X m f j1 j2 k p t o_) h_ := LEndP.mk (Hp := (fun (z_ : Int × Nat × (List PD)) => L52a.H m f j1 j2 k p t z_.1 z_.2.1 z_.2.2)) (l := (fun (k_ : Nat) (z_ : Int × Nat × (List PD)) => L52a.N m f t k_ z_.1 z_.2.1 z_.2.2)) (oE := L52a.E) (oT := L52a.X m f j1 j2 k p t) (oH := L52a.XH m f j1 j2 k p t) o_ h3 h4
theorem L52a.spec (m : Nat) (f : Nat → Int) (hm : m ≤ 512) (j1 : Int) (j2 : Int) (k : Nat) (p : Nat → PD) (t : Int) (k_ : Nat) (z_ : Int × Nat × (List PD)) (hi_ : L52a.inv m f j1 j2 k p t z_.1 z_.2.1 z_.2.2) (hm_ : L52a.mu m f j1 j2 k p t z_.1 z_.2.1 z_.2.2 < k_) : LoopTo Try.prog (loopN Try.f52 0) (L52a.T m f j1 j2 k p t z_.1 z_.2.1 z_.2.2) (L52a.H m f j1 j2 k p t z_.1 z_.2.1 z_.2.2) (L52a.E (L52a.N m f t k_ z_.1 z_.2.1 z_.2.2)) (L52a.X m f j1 j2 k p t (L52a.N m f t k_ z_.1 z_.2.1 z_.2.2)) (L52a.XH m f j1 j2 k p t (L52a.N m f t k_ z_.1 z_.2.1 z_.2.2)) := by
  refine LoopTo.fuelP mix (fun (z_ : Int × Nat × (List PD)) => L52a.T m f j1 j2 k p t z_.1 z_.2.1 z_.2.2) (fun (z_ : Int × Nat × (List PD)) => L52a.H m f j1 j2 k p t z_.1 z_.2.1 z_.2.2) (fun (z_ : Int × Nat × (List PD)) => L52a.inv m f j1 j2 k p t z_.1 z_.2.1 z_.2.2) (fun (z_ : Int × Nat × (List PD)) => L52a.mu m f j1 j2 k p t z_.1 z_.2.1 z_.2.2) (fun (k_ : Nat) (z_ : Int × Nat × (List PD)) => L52a.N m f t k_ z_.1 z_.2.1 z_.2.2) L52a.E (L52a.X m f j1 j2 k p t) (L52a.XH m f j1 j2 k p t) (others 39 [0, 3, 8, 9, 10]) (others 39 [8]) (others 39 [8, 9]) ?_ k_ z_ hi_ hm_
  clear hm_ hi_ z_ k_
  intro k_ z_ hinv hmu
  obtain ⟨a10, av2_0, al2_0⟩ := z_
  have hinv : 0 ≤ a10 ∧ (a10 ≤ (↑m : Int) ∨ a10 ≤ 0) ∧ (↑al2_0.length : Int) ≤ a10 - 0 := hinv
  have hmu : (((↑m : Int) - a10).toNat) < k_ + 1 := hmu
  cases h1 : decide (a10 < (↑m : Int)) with
  | true =>
    have h1p := of_decide_eq_true h1
    have o0 : (0 : Int) ≤ a10 := by first | assumption | omega | (simp_all; done)
    have o1 : a10 < (↑m : Int) := by first | assumption | omega | (simp_all; done)
    have o2 : ((List.map PD.av al2_0).length + (1 : Nat)) * (16 : Nat) ≤ (140737488355328 : Nat) := by first | assumption | omega | (simp only [List.length_append, List.length_cons, List.length_nil, List.length_map]; omega) | (simp_all; done)
    have o3 : (List.map PD.av al2_0).length = (Col.recs (List.map PD.av al2_0)).len := by first | assumption | omega | (simp only [List.length_append, List.length_cons, List.length_nil, List.length_map]; omega) | rfl | (exact Nat.le_refl _) | (simp [Col.len]; done) | (simp_all; done)
    try have := IntWalk.i64_in (a10 + 1) (by omega)
    have o4 : (0 : Int) ≤ IntKind.i64.wrap (a10 + (1 : Int)) := by first | assumption | omega | (simp_all; done)
    have o5 : IntKind.i64.wrap (a10 + (1 : Int)) ≤ (↑m : Int) ∨ IntKind.i64.wrap (a10 + (1 : Int)) ≤ (0 : Int) := by first | assumption | omega | (simp_all; done)
    try have := IntWalk.i64_in (f a10.toNat - t) (by omega)
    try have := IntWalk.i64_in (f a10.toNat + t) (by omega)
    have o6 : (↑(PD.mk (IntKind.i64.wrap (f a10.toNat - t)) (IntKind.i64.wrap (f a10.toNat + t)) :: al2_0).length : Int) ≤ IntKind.i64.wrap (a10 + (1 : Int)) - (0 : Int) := by first | assumption | omega | (simp only [List.length_append, List.length_cons, List.length_nil, List.length_map]; omega) | (simp_all; done)
    have o7 : ((↑m : Int) - IntKind.i64.wrap (a10 + (1 : Int))).toNat < ((↑m : Int) - a10).toNat := by first | assumption | omega | (simp_all; done)
    exact ⟨[.b true, .app .one false], kmp (by kernel_rfl) (And.intro h1 (And.intro (And.intro o0 o1) (And.intro (And.intro o0 o1) (And.intro (And.intro (show (2 : Nat) = (2 : Nat) by first | decide | exact Int.NonNeg.mk _) (And.intro (show AppMode.one.needs 1 fun (a : Nat) => (Col.ofList [AV.agg [AV.int IntKind.i64 (IntKind.i64.wrap (f a10.toNat - t)), AV.int IntKind.i64 (IntKind.i64.wrap (f a10.toNat + t))]]).get a by first | exact ⟨rfl, rfl⟩ | simp [AppMode.needs]) (And.intro o2 (And.intro (rfl : av2_0 = av2_0) (And.intro (show (0 : Nat) = (0 : Nat) by first | decide | exact Int.NonNeg.mk _) o3))))) (L52a.nx m f j1 j2 k p t (k_ := k_) (z_ := (a10, av2_0, al2_0)) ((IntKind.i64.wrap (a10 + 1), av2_0 + 1, PD.mk (IntKind.i64.wrap (f a10.toNat - t)) (IntKind.i64.wrap (f a10.toNat + t)) :: al2_0)) (And.intro o4 (And.intro o5 o6)) o7 (by first | (simp only [L52a.N, h1, cond_true, cond_false]; done) | (try unfold L52a.N; try simp only [h1, cond_true, cond_false]; try rfl; done)) PopOk.same)))))⟩
  | false =>
    have h1p := of_decide_eq_false h1
    exact ⟨[.b false], kmp (by kernel_rfl) (And.intro h1 (L52a.en m f j1 j2 k p t (k_ := k_) (z_ := (a10, av2_0, al2_0)) (.e0 (av2_0) (al2_0) : L52a.O) (by first | (simp only [L52a.N, h1, cond_true, cond_false]; done) | (try unfold L52a.N; try simp only [h1, cond_true, cond_false]; try rfl; done)) PopOk.same))⟩
theorem L52a.e0 (m : Nat) (f : Nat → Int) (hm : m ≤ 512) (j1 : Int) (j2 : Int) (k : Nat) (p : Nat → PD) (t : Int) (a10 : Int) (av2_0 : Nat) (al2_0 : List PD) (hinv : L52a.inv m f j1 j2 k p t a10 av2_0 al2_0) (a0 : Nat) (a1 : List PD) (hN : L52a.run m f t a10 av2_0 al2_0 = (.e0 a0 a1 : L52a.O)) : LoopTo Try.prog (loopN Try.f52 0) (L52a.T m f j1 j2 k p t a10 av2_0 al2_0) (L52a.H m f j1 j2 k p t a10 av2_0 al2_0) (Exit.exit 0) (L52a.X m f j1 j2 k p t (.e0 a0 a1 : L52a.O)) (L52a.XH m f j1 j2 k p t (.e0 a0 a1 : L52a.O)) := by
  have h_ := L52a.spec m f hm j1 j2 k p t ((((↑m : Int) - a10).toNat) + 1) (a10, av2_0, al2_0) hinv (Nat.lt_succ_self _)
  unfold L52a.run at hN
  simp only [hN] at h_
  exact h_
theorem L52a.len0_1 (m : Nat) (f : Nat → Int) (t : Int) : ∀ (m_ : Nat) (a10 : Int) (av2_0 : Nat) (al2_0 : List PD) (a0_ : Nat) (a1_ : List PD), L52a.N m f t m_ a10 av2_0 al2_0 = (.e0 a0_ a1_ : L52a.O) → (a1_).length ≤ (al2_0).length + m_ := by
  intro m_
  induction m_ with
  | zero =>
    intro a10 av2_0 al2_0 a0_ a1_ h_
    simp only [L52a.N] at h_
    cases h_
    exact Nat.zero_le _
  | succ m_ ih_ =>
    intro a10 av2_0 al2_0 a0_ a1_ h_
    cases h1 : decide (a10 < (↑m : Int)) with
    | true =>
      have h1p := of_decide_eq_true h1
      (simp only [L52a.N, h1, cond_true, cond_false] at h_; first | (have := ih_ _ _ _ _ _ h_; simp only [List.length_append, List.length_cons, List.length_nil] at this; omega) | (cases h_; done) | (cases h_; omega))
    | false =>
      have h1p := of_decide_eq_false h1
      (simp only [L52a.N, h1, cond_true, cond_false] at h_; first | (have := ih_ _ _ _ _ _ h_; simp only [List.length_append, List.length_cons, List.length_nil] at this; omega) | (cases h_; done) | (cases h_; omega))
theorem L52a.lenR0_1 (m : Nat) (f : Nat → Int) (t : Int) {a10 : Int} {av2_0 : Nat} {al2_0 : List PD} {a0_ : Nat} {a1_ : List PD} (h_ : L52a.run m f t a10 av2_0 al2_0 = (.e0 a0_ a1_ : L52a.O)) : (a1_).length ≤ (al2_0).length + ((((↑m : Int) - a10).toNat) + 1) := L52a.len0_1 m f t _ a10 av2_0 al2_0 a0_ a1_ h_

noncomputable def r52.v0 (m : Nat) (f : Nat → Int) (t : Int) : List PD := (match L52a.run m f t 0 0 [] with | .e0 h1d0 h1d1 => h1d1 )
noncomputable def r52.v1 (m : Nat) (f : Nat → Int) (j1 : Int) (t : Int) : Int := (match L52a.run m f t 0 0 [] with | .e0 h1d0 h1d1 => j1 )
noncomputable def r52.v2 (m : Nat) (f : Nat → Int) (j2 : Int) (t : Int) : Int := (match L52a.run m f t 0 0 [] with | .e0 h1d0 h1d1 => j2 )
noncomputable def r52.v3 (m : Nat) (f : Nat → Int) (k : Nat) (t : Int) : Nat := (match L52a.run m f t 0 0 [] with | .e0 h1d0 h1d1 => k )
theorem r52_ (m : Nat) (f : Nat → Int) (hm : m ≤ 512) (j1 : Int) (j2 : Int) (k : Nat) (p : Nat → PD) (t : Int) (h : AHeap) : Ret Try.prog 52 ([ivs' m f, AV.agg [AV.int IntKind.i64 j1, AV.int IntKind.i64 j2], prs k p, AV.int IntKind.i64 t]) h (AV.agg ((avRecs 2 (List.map PD.av (r52.v0 m f t))) :: ((AV.int IntKind.i64 (r52.v1 m f j1 t)) :: ((AV.int IntKind.i64 (r52.v2 m f j2 t)) :: ((AV.sl 2 (r52.v3 m f k t) (fun (i : Nat) => AV.agg [AV.int IntKind.i64 (p i).lo, AV.int IntKind.i64 (p i).hi])) :: []))))) h := by
  have o0 : m ≤ (512 : Nat) := by first | assumption | omega | (simp_all; done)
  have o1 : (0 : Int) ≤ (↑m : Int) ∨ (0 : Int) ≤ (0 : Int) := by first | assumption | omega | (simp_all; done)
  cases h1 : L52a.run m f t 0 0 [] with
  | e0 h1d0 h1d1 =>
    try have := L52a.lenR0_1 _ _ _ (by assumption); (try simp only [List.length_nil] at this)
    have o2 : (0 : Nat) + (List.map PD.av h1d1).length ≤ (Col.recs (List.map PD.av h1d1)).len := by first | assumption | omega | (simp only [List.length_append, List.length_cons, List.length_nil, List.length_map]; omega) | rfl | (exact Nat.le_refl _) | (simp [Col.len]; done) | (simp_all; done)
    exact Ret.of_run1 mix [(AV.agg ((avRecs 2 (List.map PD.av (r52.v0 m f t))) :: ((AV.int IntKind.i64 (r52.v1 m f j1 t)) :: ((AV.int IntKind.i64 (r52.v2 m f j2 t)) :: ((AV.sl 2 (r52.v3 m f k t) (fun (i : Nat) => AV.agg [AV.int IntKind.i64 (p i).lo, AV.int IntKind.i64 (p i).hi])) :: [])))))] Try.func52 rfl [.virt [0] [(some 2, 0, 2, Col.recs [])], .loop (others 39 [0, 3, 8, 9, 10]) (Exit.exit 0) (L52a.X m f j1 j2 k p t (L52a.O.e0 h1d0 h1d1)) (L52a.XH m f j1 j2 k p t (L52a.O.e0 h1d0 h1d1))] (by simp) (by simp) (kmp (by kernel_rfl) (And.intro (And.intro (rfl : AV.snil = AV.snil) (And.intro (rfl : (0 : Nat) = 0) trivial)) (And.intro (L52a.e0 (m) (f) o0 (j1) (j2) (k) (p) (t) (0) (0) ([]) (And.intro (show (0 : Int) ≤ (0 : Int) by first | decide | exact Int.NonNeg.mk _) (And.intro o1 (show (0 : Int) ≤ (0 : Int) by first | decide | exact Int.NonNeg.mk _))) h1d0 h1d1 h1) (And.intro (And.intro (And.intro (And.intro (rfl : h1d0 = h1d0) (And.intro (show (2 : Nat) = (2 : Nat) by first | decide | exact Int.NonNeg.mk _) o2)) trivial) (show ((AV.agg ((avRecs 2 (List.map PD.av h1d1)) :: ((AV.int IntKind.i64 j1) :: ((AV.int IntKind.i64 j2) :: ((AV.sl 2 k (fun (i : Nat) => AV.agg [AV.int IntKind.i64 (p i).lo, AV.int IntKind.i64 (p i).hi])) :: [])))))) = ((AV.agg ((avRecs 2 (List.map PD.av (r52.v0 m f t))) :: ((AV.int IntKind.i64 (r52.v1 m f j1 t)) :: ((AV.int IntKind.i64 (r52.v2 m f j2 t)) :: ((AV.sl 2 (r52.v3 m f k t) (fun (i : Nat) => AV.agg [AV.int IntKind.i64 (p i).lo, AV.int IntKind.i64 (p i).hi])) :: [])))))) by first | (simp only [r52.v0, r52.v1, r52.v2, r52.v3, h1, cond_true, cond_false]; done) | (try unfold r52.v0; try unfold r52.v1; try unfold r52.v2; try unfold r52.v3; try simp only [h1, cond_true, cond_false]; try rfl; done) | rfl)) trivial)))) h
theorem r52 (m : Nat) (f : Nat → Int) (hm : m ≤ 512) (j1 : Int) (j2 : Int) (k : Nat) (p : Nat → PD) (t : Int) (h : AHeap) : Ret Try.prog 52 ([ivs' m f, AV.agg [AV.int IntKind.i64 j1, AV.int IntKind.i64 j2], prs k p, AV.int IntKind.i64 t]) h (AV.agg ((recL 2 PD.av (r52.v0 m f t)) :: ((AV.int IntKind.i64 (r52.v1 m f j1 t)) :: ((AV.int IntKind.i64 (r52.v2 m f j2 t)) :: ((AV.sl 2 (r52.v3 m f k t) (fun (i : Nat) => AV.agg [AV.int IntKind.i64 (p i).lo, AV.int IntKind.i64 (p i).hi])) :: []))))) h := (r52_ m f hm j1 j2 k p t h).out (by repeat first | exact imp_recL | refine Imp.agg ?_ | refine ImpL.cons ?_ ?_ | exact ImpL.nil | exact Imp.refl _)

theorem r31 (t : Int) (e : Int) (h : AHeap) : Ret Try.prog 31 ([AV.int IntKind.i64 t, AV.int IntKind.i64 e]) h (AV.agg ((AV.sl 2 3 (fun (a : Nat) => (Col.ofList [AV.agg [AV.int IntKind.i64 (IntKind.i64.wrap (300 - t)), AV.int IntKind.i64 (IntKind.i64.wrap (300 + t))], AV.agg [AV.int IntKind.i64 (IntKind.i64.wrap (300 - t)), AV.int IntKind.i64 (IntKind.i64.wrap (300 + t))], AV.agg [AV.int IntKind.i64 (IntKind.i64.wrap (300 - t)), AV.int IntKind.i64 (IntKind.i64.wrap (300 + t))]]).get a)) :: ((AV.int IntKind.i64 5) :: ((AV.int IntKind.i64 10) :: ((AV.sl 2 1 (fun (a : Nat) => (Col.ofList [AV.agg [AV.int IntKind.i64 3, AV.int IntKind.i64 e]]).get a)) :: []))))) h := by
  exact Ret.of_run1 mix [(AV.agg ((AV.sl 2 3 (fun (a : Nat) => (Col.ofList [AV.agg [AV.int IntKind.i64 (IntKind.i64.wrap (300 - t)), AV.int IntKind.i64 (IntKind.i64.wrap (300 + t))], AV.agg [AV.int IntKind.i64 (IntKind.i64.wrap (300 - t)), AV.int IntKind.i64 (IntKind.i64.wrap (300 + t))], AV.agg [AV.int IntKind.i64 (IntKind.i64.wrap (300 - t)), AV.int IntKind.i64 (IntKind.i64.wrap (300 + t))]]).get a)) :: ((AV.int IntKind.i64 5) :: ((AV.int IntKind.i64 10) :: ((AV.sl 2 1 (fun (a : Nat) => (Col.ofList [AV.agg [AV.int IntKind.i64 3, AV.int IntKind.i64 e]]).get a)) :: [])))))] Try.func31 rfl [] (by simp) (by simp) (kmp (by kernel_rfl) (And.intro (And.intro trivial (show (AV.agg [AV.sl 2 3 fun (a : Nat) => (Col.ofList [AV.agg [AV.int IntKind.i64 (IntKind.i64.wrap (300 - t)), AV.int IntKind.i64 (IntKind.i64.wrap (300 + t))], AV.agg [AV.int IntKind.i64 (IntKind.i64.wrap (300 - t)), AV.int IntKind.i64 (IntKind.i64.wrap (300 + t))], AV.agg [AV.int IntKind.i64 (IntKind.i64.wrap (300 - t)), AV.int IntKind.i64 (IntKind.i64.wrap (300 + t))]]).get a, AV.int IntKind.i64 5, AV.int IntKind.i64 10, AV.sl 2 1 fun (a : Nat) => (Col.ofList [AV.agg [AV.int IntKind.i64 3, AV.int IntKind.i64 e]]).get a]) = ((AV.agg ((AV.sl 2 3 (fun (a : Nat) => (Col.ofList [AV.agg [AV.int IntKind.i64 (IntKind.i64.wrap (300 - t)), AV.int IntKind.i64 (IntKind.i64.wrap (300 + t))], AV.agg [AV.int IntKind.i64 (IntKind.i64.wrap (300 - t)), AV.int IntKind.i64 (IntKind.i64.wrap (300 + t))], AV.agg [AV.int IntKind.i64 (IntKind.i64.wrap (300 - t)), AV.int IntKind.i64 (IntKind.i64.wrap (300 + t))]]).get a)) :: ((AV.int IntKind.i64 5) :: ((AV.int IntKind.i64 10) :: ((AV.sl 2 1 (fun (a : Nat) => (Col.ofList [AV.agg [AV.int IntKind.i64 3, AV.int IntKind.i64 e]]).get a)) :: [])))))) by first | (simp only [cond_true, cond_false]; done) | (try rfl; done) | rfl)) trivial)) h

end Go.Proofs.Ytjdakdjgkpfjkaa

/- Lists grown one by one, read from their first on; the conversions. Conditions: none. -/
open Go
namespace Go.Proofs.Ytjdakdjgkpfjkaa
set_option linter.unusedVariables false
set_option linter.unusedSimpArgs false

theorem rget_last {D : Type} [Inhabited D] (x : D) (L : List D) : rget (x :: L) L.length = x := by
  unfold rget; simp
theorem rget_init {D : Type} [Inhabited D] (x : D) (L : List D) {i : Nat} (h : i < L.length) : rget (x :: L) i = rget L i := by
  unfold rget
  rw [show (x :: L).length - 1 - i = (L.length - 1 - i) + 1 by simp; omega]
  rfl
theorem grow_spec {D O : Type} [Inhabited D] {N : Nat → Nat → Nat → List D → O} {out : Nat → List D → O} (n : Nat) (F : Nat → D)
    (step : ∀ m c v al, c < n → N (m + 1) c v al = N m (c + 1) (v + 1) (F c :: al)) (stop : ∀ m v al, N (m + 1) n v al = out v al) :
    ∀ m c v al, c ≤ n → n - c < m → al.length = c → (∀ i, i < c → rget al i = F i) → ∃ v' L, N m c v al = out v' L ∧ L.length = n ∧ ∀ i, i < n → rget L i = F i := by
  intro m
  induction m with
  | zero => intro c v al _ h; omega
  | succ m ih =>
    intro c v al hc hm hl hf
    by_cases e : c = n
    · subst e
      exact ⟨v, al, stop m v al, hl, hf⟩
    · rw [step m c v al (by omega)]
      refine ih (c + 1) (v + 1) (F c :: al) (by omega) (by omega) (by simp [hl]) fun i hi => ?_
      by_cases e2 : i = c
      · subst e2; rw [← hl]; exact rget_last _ _
      · rw [rget_init _ _ (by omega)]; exact hf i (by omega)

theorem r28_eq (k : Nat) (p : Nat → PD) (hk : k ≤ 9223372036854775807) : (r28.v k p).length = k ∧ ∀ i, i < k → rget (r28.v k p) i = p i := by
  obtain ⟨v', L, h1, h2, h3⟩ := grow_spec (N := fun m c v al => L28a.N k p m v al c) (out := fun v L => L28a.O.e0 v L) k p
    (fun m c v al h => by simp only [L28a.N, wrap_succ hk h, Int.toNat_natCast]; rw [decide_eq_true (by omega)]; rfl)
    (fun m v al => by simp [L28a.N]) (((((k : Int) - 0)).toNat) + 1) 0 0 [] (by omega) (by omega) rfl (fun i h => by omega)
  have : r28.v k p = L := by
    unfold r28.v L28a.run
    have e : L28a.N k p ((((k : Int) - 0).toNat) + 1) 0 [] 0 = .e0 v' L := h1
    rw [e]
  rw [this]
  exact ⟨h2, h3⟩

theorem L27_eq (m : Nat) (f : Nat → Int) (t : Int) (hm : m ≤ 9223372036854775807) : ∃ v L, L27ab.run m f t 0 0 [] = .e0 v L ∧ L.length = m ∧ ∀ i, i < m → rget L i = ⟨IntKind.i64.wrap (f i - t), IntKind.i64.wrap (f i + t)⟩ := by
  exact grow_spec (N := fun q c v al => L27ab.N m f t q c v al) (out := fun v L => L27ab.O.e0 v L) m (fun i => ⟨IntKind.i64.wrap (f i - t), IntKind.i64.wrap (f i + t)⟩)
    (fun q c v al h => by simp only [L27ab.N, wrap_succ hm h, Int.toNat_natCast]; rw [decide_eq_true (by omega)]; rfl)
    (fun q v al => by simp [L27ab.N]) (((((m : Int) - 0)).toNat) + 1) 0 0 [] (by omega) (by omega) rfl (fun i h => by omega)

theorem r52_eq (m : Nat) (f : Nat → Int) (t : Int) (hm : m ≤ 9223372036854775807) : (r52.v0 m f t).length = m ∧ ∀ i, i < m → rget (r52.v0 m f t) i = (⟨IntKind.i64.wrap (f i - t), IntKind.i64.wrap (f i + t)⟩ : PD) := by
  obtain ⟨v', L, h1, h2, h3⟩ := grow_spec (N := fun q c v al => L52a.N m f t q c v al) (out := fun v L => L52a.O.e0 v L) m (fun i => ⟨IntKind.i64.wrap (f i - t), IntKind.i64.wrap (f i + t)⟩)
    (fun q c v al h => by simp only [L52a.N, wrap_succ hm h, Int.toNat_natCast]; rw [decide_eq_true (by omega)]; rfl)
    (fun q v al => by simp [L52a.N]) (((((m : Int) - 0)).toNat) + 1) 0 0 [] (by omega) (by omega) rfl (fun i h => by omega)
  have : r52.v0 m f t = L := by
    unfold r52.v0 L52a.run
    have e : L52a.N m f t ((((m : Int) - 0).toNat) + 1) 0 0 [] = .e0 v' L := h1
    rw [e]
  rw [this]
  exact ⟨h2, h3⟩
theorem bd52 {m : Nat} (f : Nat → Int) (t : Int) (hm : m ≤ 9223372036854775807) : (r52.v0 m f t).length ≤ 9223372036854775807 := by rw [(r52_eq m f t hm).1]; exact hm

/-- A grown list of pairs, told by what it holds. -/
theorem recL_imp {L : List PD} {n : Nat} {F : Nat → PD} (hl : L.length = n) (hf : ∀ i, i < n → rget L i = F i) : Imp (recL 2 PD.av L) (prs n F) := by
  subst hl
  unfold recL prs
  refine Imp.sl fun i hi => ?_
  rw [hf i hi]
  exact ImpL.refl _

theorem r52_v1 (m : Nat) (f : Nat → Int) (j t : Int) (hm : m ≤ 9223372036854775807) : r52.v1 m f j t = j ∧ r52.v2 m f j t = j := by
  unfold r52.v1 r52.v2; cases L52a.run m f t 0 0 []; exact ⟨rfl, rfl⟩
theorem r52_v3 (m : Nat) (f : Nat → Int) (k : Nat) (t : Int) : r52.v3 m f k t = k := by
  unfold r52.v3; cases L52a.run m f t 0 0 []; rfl
def wid (f : Nat → Int) (t : Int) (i : Nat) : PD := ⟨IntKind.i64.wrap (f i - t), IntKind.i64.wrap (f i + t)⟩
theorem c52 (m : Nat) (f : Nat → Int) (hm : m ≤ 512) (j1 j2 : Int) (k : Nat) (p : Nat → PD) (t : Int) (h : AHeap) : Ret Try.prog 52 ([ivs' m f, AV.agg [AV.int IntKind.i64 j1, AV.int IntKind.i64 j2], prs k p, AV.int IntKind.i64 t]) h (rn m (wid f t) j1 j2 k p) h := by
  refine (r52 m f hm j1 j2 k p t h).out (.agg (.cons (recL_imp (r52_eq m f t (by omega)).1 (r52_eq m f t (by omega)).2) ?_))
  rw [(r52_v1 m f j1 t (by omega)).1, (r52_v1 m f j2 t (by omega)).2, r52_v3]
  exact ImpL.refl _
/-- The lengths at a tolerance, told past the end too. -/
def W (m : Nat) (f : Nat → Int) (t : Int) (i : Nat) : PD := wid f t (if i < m then i else m - 1)
theorem W_eq {m : Nat} {f : Nat → Int} {t : Int} {L : List PD} (h0 : 0 < m) (hl : L.length = m) (hf : ∀ i, i < m → rget L i = wid f t i) : rget L = W m f t := by
  funext i
  unfold W
  by_cases h : i < m
  · rw [if_pos h]; exact hf i h
  · rw [if_neg h, ← hf (m - 1) (by omega)]
    unfold rget
    rw [show L.length - 1 - i = L.length - 1 - (m - 1) by omega]
theorem c52w (m : Nat) (f : Nat → Int) (hm : m ≤ 512) (j1 j2 : Int) (k : Nat) (p : Nat → PD) (t : Int) (h : AHeap) : Ret Try.prog 52 ([ivs' m f, AV.agg [AV.int IntKind.i64 j1, AV.int IntKind.i64 j2], prs k p, AV.int IntKind.i64 t]) h (rn m (W m f t) j1 j2 k p) h := by
  refine (c52 m f hm j1 j2 k p t h).out (.agg (.cons (Imp.sl fun i hi => ?_) (ImpL.refl _)))
  unfold W
  rw [if_pos hi]
  exact ImpL.refl _
def three (t : Int) : PD := ⟨IntKind.i64.wrap (300 - t), IntKind.i64.wrap (300 + t)⟩
theorem c31 (t e : Int) (h : AHeap) : Ret Try.prog 31 ([AV.int IntKind.i64 t, AV.int IntKind.i64 e]) h (rn 3 (fun _ => three t) 5 10 1 (fun _ => ⟨3, e⟩)) h := by
  refine (r31 t e h).out (.agg (.cons (Imp.sl fun i hi => ?_) (.cons (.refl _) (.cons (.refl _) (.cons (Imp.sl fun i hi => ?_) .nil)))))
  · rcases i with _ | _ | _ | i
    · exact ImpL.refl _
    · exact ImpL.refl _
    · exact ImpL.refl _
    · omega
  · rcases i with _ | i
    · exact ImpL.refl _
    · omega

theorem c14 (n : Nat) (g : Nat → PD) (j1 : Int) (j2 : Int) (k : Nat) (p : Nat → PD) (hk : k ≤ 30) (h : AHeap) : Ret Try.prog 14 ([rn n g j1 j2 k p]) h (rn n g j1 j2 k p) h :=
  (r14 n g j1 j2 k p hk h).out (.agg (.cons (.refl _) (.cons (.refl _) (.cons (.refl _) (.cons (recL_imp (r28_eq k p (by omega)).1 (r28_eq k p (by omega)).2) .nil)))))
theorem ok15 {n : Nat} {g : Nat → PD} {j1 j2 : Int} {k : Nat} {p : Nat → PD} (h : (r15.v n g j1 j2 k p == 0) = true) (hn : n ≤ 9223372036854775807) (hk : k ≤ 9223372036854775807) : ROk n g j1 j2 k p :=
  checked hn hk (by rw [← check_same hn hk]; exact eq_of_beq h)
theorem c28 (k : Nat) (p : Nat → PD) (hk : k ≤ 30) (h : AHeap) : Ret Try.prog 28 ([prs k p]) h (prs k p) h :=
  (r28 k p hk h).out (recL_imp (r28_eq k p (by omega)).1 (r28_eq k p (by omega)).2)
theorem bd12 {n k : Nat} (h : r12.v n k = true) : n ≤ 30 ∧ k ≤ 30 := by
  unfold r12.v at h
  by_cases h1 : (n : Int) ≤ 30
  · rw [decide_eq_true h1] at h
    have := of_decide_eq_true h
    omega
  · rw [decide_eq_false h1] at h
    cases h
end Go.Proofs.Ytjdakdjgkpfjkaa
