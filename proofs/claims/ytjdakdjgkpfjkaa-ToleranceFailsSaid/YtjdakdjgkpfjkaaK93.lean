/- Contracts of the functions and plain laws, part 3. Conditions: none. -/
import Derived.Test.YtjdakdjgkpfjkaaK92
import Derived.Test.YtjdakdjgkpfjkaaRows

/- the tolerance seat's contracts: lists of lengths. -/
open Go
namespace Go.Proofs.Ytjdakdjgkpfjkaa
set_option linter.unusedSimpArgs false
set_option linter.unusedVariables false
set_option maxHeartbeats 0
set_option maxRecDepth 100000
def ivs (m : Nat) (f : Nat → Int) : AV := .sl 1 m (fun i => .int .i64 (f i))
@[simp] theorem low_ivs (lo m : Nat) (f : Nat → Int) : Low lo (ivs m f) = True := by unfold ivs; simp
inductive L20ab.O where
  | e0 (a0 : Nat) (a1 : List Int)
noncomputable def L20ab.T (n : Nat) (g : Nat → PD) (j1 : Int) (j2 : Int) (k : Nat) (p : Nat → PD) (a4 : Int) (bv12 : Nat) (bl12 : List Int) (b13 : Int) : List AV := mkT 87 [(1, AV.ptr 0 1 4 0 0), (4, AV.int IntKind.i64 a4), (6, AV.int IntKind.i64 (r43.v1 p a4)), (11, AV.bool (decide (IntKind.i64.wrap (r44.v1 g (r43.v0 p a4) (r43.v1 p a4) + IntKind.i64.wrap (r43.v2 n p a4 * j1)) > r43.v3 p a4))), (12, AV.ms 1 bv12 1 0 bl12.length), (13, AV.int IntKind.i64 b13)]
noncomputable def L20ab.H (n : Nat) (g : Nat → PD) (j1 : Int) (j2 : Int) (k : Nat) (p : Nat → PD) (a4 : Int) (bv12 : Nat) (bl12 : List Int) (b13 : Int) : AHeap := [AObj.var (AV.agg [AV.sl 2 n fun (i : Nat) => AV.agg [AV.int IntKind.i64 (g i).lo, AV.int IntKind.i64 (g i).hi], AV.int IntKind.i64 j1, AV.int IntKind.i64 j2, AV.sl 2 k fun (i : Nat) => AV.agg [AV.int IntKind.i64 (p i).lo, AV.int IntKind.i64 (p i).hi]]), AObj.row 1 bv12 (Col.ints IntKind.i64 bl12)]
def L20ab.inv (n : Nat) (g : Nat → PD) (j1 : Int) (j2 : Int) (k : Nat) (p : Nat → PD) (a4 : Int) (bv12 : Nat) (bl12 : List Int) (b13 : Int) : Prop := r43.v0 p a4 ≤ b13 ∧ (b13 ≤ r43.v1 p a4 ∨ b13 ≤ r43.v0 p a4) ∧ (↑bl12.length : Int) ≤ b13 - r43.v0 p a4
noncomputable def L20ab.mu (n : Nat) (g : Nat → PD) (j1 : Int) (j2 : Int) (k : Nat) (p : Nat → PD) (a4 : Int) (bv12 : Nat) (bl12 : List Int) (b13 : Int) : Nat := (r43.v1 p a4 - b13).toNat
noncomputable def L20ab.E : L20ab.O → Exit
  | .e0 a0 a1 => Exit.exit 2
noncomputable def L20ab.X (n : Nat) (g : Nat → PD) (j1 : Int) (j2 : Int) (k : Nat) (p : Nat → PD) (a4 : Int) : L20ab.O → List AV
  | .e0 a0 a1 => mkT 87 [(4, (AV.int IntKind.i64 a4)), (12, (AV.ms 1 a0 1 0 (List.length a1)))]
noncomputable def L20ab.XH (n : Nat) (g : Nat → PD) (j1 : Int) (j2 : Int) (k : Nat) (p : Nat → PD) (a4 : Int) : L20ab.O → AHeap
  | .e0 a0 a1 => ((AObj.var (AV.agg [AV.sl 2 n fun (i : Nat) => AV.agg [AV.int IntKind.i64 (g i).lo, AV.int IntKind.i64 (g i).hi], AV.int IntKind.i64 j1, AV.int IntKind.i64 j2, AV.sl 2 k fun (i : Nat) => AV.agg [AV.int IntKind.i64 (p i).lo, AV.int IntKind.i64 (p i).hi]])) :: ((AObj.row 1 a0 (Col.ints IntKind.i64 a1)) :: ([])))
noncomputable def L20ab.N (g : Nat → PD) (p : Nat → PD) (a4 : Int) : Nat → Nat → (List Int) → Int → L20ab.O
  | 0, _, _, _ => .e0 default default
  | k_ + 1, bv12, bl12, b13 => (bif decide (b13 < r43.v1 p a4) then (L20ab.N g p a4 k_ (bv12 + 1) (bl12 ++ [(g b13.toNat).hi]) (IntKind.i64.wrap (b13 + 1))) else (.e0 (bv12) (bl12)))
noncomputable def L20ab.run (g : Nat → PD) (p : Nat → PD) (a4 : Int) (bv12 : Nat) (bl12 : List Int) (b13 : Int) : L20ab.O := L20ab.N g p a4 (((r43.v1 p a4 - b13).toNat) + 1) bv12 bl12 b13
def L20ab.Next (n : Nat) (g : Nat → PD) (j1 : Int) (j2 : Int) (k : Nat) (p : Nat → PD) (a4 : Int) (k_ : Nat) (z_ : Nat × (List Int) × Int) (T_ : List AV) (h_ : AHeap) : Prop := LNextP (fun (z_ : Nat × (List Int) × Int) => L20ab.T n g j1 j2 k p a4 z_.1 z_.2.1 z_.2.2) (fun (z_ : Nat × (List Int) × Int) => L20ab.H n g j1 j2 k p a4 z_.1 z_.2.1 z_.2.2) (fun (z_ : Nat × (List Int) × Int) => L20ab.inv n g j1 j2 k p a4 z_.1 z_.2.1 z_.2.2) (fun (z_ : Nat × (List Int) × Int) => L20ab.mu n g j1 j2 k p a4 z_.1 z_.2.1 z_.2.2) (fun (k_ : Nat) (z_ : Nat × (List Int) × Int) => L20ab.N g p a4 k_ z_.1 z_.2.1 z_.2.2) k_ z_ T_ h_
def L20ab.End (n : Nat) (g : Nat → PD) (j1 : Int) (j2 : Int) (k : Nat) (p : Nat → PD) (a4 : Int) (k_ : Nat) (z_ : Nat × (List Int) × Int) (e_ : Exit) (T_ : List AV) (h_ : AHeap) : Prop := LEndP (fun (z_ : Nat × (List Int) × Int) => L20ab.H n g j1 j2 k p a4 z_.1 z_.2.1 z_.2.2) (fun (k_ : Nat) (z_ : Nat × (List Int) × Int) => L20ab.N g p a4 k_ z_.1 z_.2.1 z_.2.2) L20ab.E (L20ab.X n g j1 j2 k p a4) (L20ab.XH n g j1 j2 k p a4) k_ z_ e_ T_ h_
theorem L20ab.nx (n : Nat) (g : Nat → PD) (j1 : Int) (j2 : Int) (k : Nat) (p : Nat → PD) (a4 : Int) {k_ : Nat} {z_ : Nat × (List Int) × Int} {h_ : AHeap} (s_ : Nat × (List Int) × Int) (h1 : L20ab.inv n g j1 j2 k p a4 s_.1 s_.2.1 s_.2.2) (h2 : L20ab.mu n g j1 j2 k p a4 s_.1 s_.2.1 s_.2.2 < L20ab.mu n g j1 j2 k p a4 z_.1 z_.2.1 z_.2.2) (h3 : L20ab.N g p a4 k_ s_.1 s_.2.1 s_.2.2 = L20ab.N g p a4 (k_ + 1) z_.1 z_.2.1 z_.2.2) (h4 : PopOk (L20ab.H n g j1 j2 k p a4 z_.1 z_.2.1 z_.2.2) h_ (L20ab.T n g j1 j2 k p a4 s_.1 s_.2.1 s_.2.2) (L20ab.H n g j1 j2 k p a4 s_.1 s_.2.1 s_.2.2)) : LNextP (fun (z_ : Nat × (List Int) × Int) => L20ab.T n g j1 j2 k p a4 z_.1 z_.2.1 z_.2.2) (fun (z_ : Nat × (List Int) × Int) => L20ab.H n g j1 j2 k p a4 z_.1 z_.2.1 z_.2.2) (fun (z_ : Nat × (List Int) × Int) => L20ab.inv n g j1 j2 k p a4 z_.1 z_.2.1 z_.2.2) (fun (z_ : Nat × (List Int) × Int) => L20ab.mu n g j1 j2 k p a4 z_.1 z_.2.1 z_.2.2) (fun (k_ : Nat) (z_ : Nat × (List Int) × Int) => L20ab.N g p a4 k_ z_.1 z_.2.1 z_.2.2) k_ z_ (L20ab.T n g j1 j2 k p a4 s_.1 s_.2.1 s_.2.2) h_ := LNextP.mk (Tm := (fun (z_ : Nat × (List Int) × Int) => L20ab.T n g j1 j2 k p a4 z_.1 z_.2.1 z_.2.2)) (Hp := (fun (z_ : Nat × (List Int) × Int) => L20ab.H n g j1 j2 k p a4 z_.1 z_.2.1 z_.2.2)) (inv := (fun (z_ : Nat × (List Int) × Int) => L20ab.inv n g j1 j2 k p a4 z_.1 z_.2.1 z_.2.2)) (mu := (fun (z_ : Nat × (List Int) × Int) => L20ab.mu n g j1 j2 k p a4 z_.1 z_.2.1 z_.2.2)) (l := (fun (k_ : Nat) (z_ : Nat × (List Int) × Int) => L20ab.N g p a4 k_ z_.1 z_.2.1 z_.2.2)) s_ h1 h2 h3 h4
theorem L20ab.en (n : Nat) (g : Nat → PD) (j1 : Int) (j2 : Int) (k : Nat) (p : Nat → PD) (a4 : Int) {k_ : Nat} {z_ : Nat × (List Int) × Int} {h_ : AHeap} (o_ : L20ab.O) (h3 : L20ab.N g p a4 (k_ + 1) z_.1 z_.2.1 z_.2.2 = o_) (h4 : PopOk (L20ab.H n g j1 j2 k p a4 z_.1 z_.2.1 z_.2.2) h_ (L20ab.X n g j1 j2 k p a4 o_) (L20ab.XH n g j1 j2 k p a4 o_)) : LEndP (fun (z_ : Nat × (List Int) × Int) => L20ab.H n g j1 j2 k p a4 z_.1 z_.2.1 z_.2.2) (fun (k_ : Nat) (z_ : Nat × (List Int) × Int) => L20ab.N g p a4 k_ z_.1 z_.2.1 z_.2.2) L20ab.E (L20ab.X n g j1 j2 k p a4) (L20ab.XH n g j1 j2 k p a4) k_ z_ (L20ab.E o_) (L20ab.X n g j1 j2 k p a4 o_) h_ := LEndP.mk (Hp := (fun (z_ : Nat × (List Int) × Int) => L20ab.H n g j1 j2 k p a4 z_.1 z_.2.1 z_.2.2)) (l := (fun (k_ : Nat) (z_ : Nat × (List Int) × Int) => L20ab.N g p a4 k_ z_.1 z_.2.1 z_.2.2)) (oE := L20ab.E) (oT := L20ab.X n g j1 j2 k p a4) (oH := L20ab.XH n g j1 j2 k p a4) o_ h3 h4
theorem L20ab.spec (n : Nat) (g : Nat → PD) (hn : n ≤ 9223372036854775807) (j1 : Int) (j2 : Int) (k : Nat) (p : Nat → PD) (hk : k ≤ 30) (hr : ROk n g j1 j2 k p) (a4 : Int) (i20a_0 : 0 ≤ a4) (i20a_1 : a4 ≤ (↑k : Int) ∨ a4 ≤ 0) (k1_1 : decide (a4 < (↑k : Int)) = true) (p1_1 : a4 < (↑k : Int)) (k1_2 : decide (IntKind.i64.wrap (r44.v1 g (r43.v0 p a4) (r43.v1 p a4) + IntKind.i64.wrap (r43.v2 n p a4 * j1)) > r43.v3 p a4) = true) (p1_2 : IntKind.i64.wrap (r44.v1 g (r43.v0 p a4) (r43.v1 p a4) + IntKind.i64.wrap (r43.v2 n p a4 * j1)) > r43.v3 p a4) (k_ : Nat) (z_ : Nat × (List Int) × Int) (hi_ : L20ab.inv n g j1 j2 k p a4 z_.1 z_.2.1 z_.2.2) (hm_ : L20ab.mu n g j1 j2 k p a4 z_.1 z_.2.1 z_.2.2 < k_) : LoopTo Try.prog (loopN Try.f20 1) (L20ab.T n g j1 j2 k p a4 z_.1 z_.2.1 z_.2.2) (L20ab.H n g j1 j2 k p a4 z_.1 z_.2.1 z_.2.2) (L20ab.E (L20ab.N g p a4 k_ z_.1 z_.2.1 z_.2.2)) (L20ab.X n g j1 j2 k p a4 (L20ab.N g p a4 k_ z_.1 z_.2.1 z_.2.2)) (L20ab.XH n g j1 j2 k p a4 (L20ab.N g p a4 k_ z_.1 z_.2.1 z_.2.2)) := by
  refine LoopTo.fuelP mix (fun (z_ : Nat × (List Int) × Int) => L20ab.T n g j1 j2 k p a4 z_.1 z_.2.1 z_.2.2) (fun (z_ : Nat × (List Int) × Int) => L20ab.H n g j1 j2 k p a4 z_.1 z_.2.1 z_.2.2) (fun (z_ : Nat × (List Int) × Int) => L20ab.inv n g j1 j2 k p a4 z_.1 z_.2.1 z_.2.2) (fun (z_ : Nat × (List Int) × Int) => L20ab.mu n g j1 j2 k p a4 z_.1 z_.2.1 z_.2.2) (fun (k_ : Nat) (z_ : Nat × (List Int) × Int) => L20ab.N g p a4 k_ z_.1 z_.2.1 z_.2.2) L20ab.E (L20ab.X n g j1 j2 k p a4) (L20ab.XH n g j1 j2 k p a4) (others 87 [1, 4, 6, 11, 12, 13]) (others 87 [2, 3]) (others 87 [4, 12]) ?_ k_ z_ hi_ hm_
  clear hm_ hi_ z_ k_
  intro k_ z_ hinv hmu
  obtain ⟨bv12, bl12, b13⟩ := z_
  have hinv : r43.v0 p a4 ≤ b13 ∧ (b13 ≤ r43.v1 p a4 ∨ b13 ≤ r43.v0 p a4) ∧ (↑bl12.length : Int) ≤ b13 - r43.v0 p a4 := hinv
  have hmu : ((r43.v1 p a4 - b13).toNat) < k_ + 1 := hmu
  cases h1 : decide (b13 < r43.v1 p a4) with
  | true =>
    have h1p := of_decide_eq_true h1
    try have := bd43 (by first | assumption | omega) (by first | assumption | omega) (by first | assumption | omega) (by first | assumption | omega)
    have o0 : (0 : Int) ≤ b13 := by first | assumption | omega | (simp_all; done)
    have o1 : b13 < (↑n : Int) := by first | assumption | omega | (simp_all; done)
    have o2 : (bl12.length + (1 : Nat)) * (8 : Nat) ≤ (140737488355328 : Nat) := by first | assumption | omega | (simp only [List.length_append, List.length_cons, List.length_nil, List.length_map]; omega) | (simp_all; done)
    have o3 : bl12.length = (Col.ints IntKind.i64 bl12).len := by first | assumption | omega | (simp only [List.length_append, List.length_cons, List.length_nil, List.length_map]; omega) | rfl | (exact Nat.le_refl _) | (simp [Col.len]; done) | (simp_all; done)
    try have := IntWalk.i64_in (b13 + 1) (by omega)
    have o4 : r43.v0 p a4 ≤ IntKind.i64.wrap (b13 + (1 : Int)) := by first | assumption | omega | (simp_all; done)
    have o5 : IntKind.i64.wrap (b13 + (1 : Int)) ≤ r43.v1 p a4 ∨ IntKind.i64.wrap (b13 + (1 : Int)) ≤ r43.v0 p a4 := by first | assumption | omega | (simp_all; done)
    have o6 : (↑(bl12 ++ [(g b13.toNat).hi]).length : Int) ≤ IntKind.i64.wrap (b13 + (1 : Int)) - r43.v0 p a4 := by first | assumption | omega | (simp only [List.length_append, List.length_cons, List.length_nil, List.length_map]; omega) | (simp_all; done)
    have o7 : (r43.v1 p a4 - IntKind.i64.wrap (b13 + (1 : Int))).toNat < (r43.v1 p a4 - b13).toNat := by first | assumption | omega | (simp_all; done)
    exact ⟨[.b true, .b true, .app .one false], kmp (by kernel_rfl) (And.intro h1 (And.intro k1_2 (And.intro (And.intro o0 o1) (And.intro (And.intro (show (1 : Nat) = (1 : Nat) by first | decide | exact Int.NonNeg.mk _) (And.intro (show AppMode.one.needs 1 fun (a : Nat) => (Col.ofList [AV.int IntKind.i64 (g b13.toNat).hi]).get a by first | exact ⟨rfl, rfl⟩ | simp [AppMode.needs]) (And.intro o2 (And.intro (rfl : bv12 = bv12) (And.intro (show (0 : Nat) = (0 : Nat) by first | decide | exact Int.NonNeg.mk _) o3))))) (L20ab.nx n g j1 j2 k p a4 (k_ := k_) (z_ := (bv12, bl12, b13)) ((bv12 + 1, bl12 ++ [(g b13.toNat).hi], IntKind.i64.wrap (b13 + 1))) (And.intro o4 (And.intro o5 o6)) o7 (by first | (simp only [L20ab.N, h1, cond_true, cond_false]; done) | (try unfold L20ab.N; try simp only [h1, cond_true, cond_false]; try rfl; done)) PopOk.same)))))⟩
  | false =>
    have h1p := of_decide_eq_false h1
    exact ⟨[.b false], kmp (by kernel_rfl) (And.intro h1 (L20ab.en n g j1 j2 k p a4 (k_ := k_) (z_ := (bv12, bl12, b13)) (.e0 (bv12) (bl12) : L20ab.O) (by first | (simp only [L20ab.N, h1, cond_true, cond_false]; done) | (try unfold L20ab.N; try simp only [h1, cond_true, cond_false]; try rfl; done)) PopOk.same))⟩
theorem L20ab.e0 (n : Nat) (g : Nat → PD) (hn : n ≤ 9223372036854775807) (j1 : Int) (j2 : Int) (k : Nat) (p : Nat → PD) (hk : k ≤ 30) (hr : ROk n g j1 j2 k p) (a4 : Int) (i20a_0 : 0 ≤ a4) (i20a_1 : a4 ≤ (↑k : Int) ∨ a4 ≤ 0) (k1_1 : decide (a4 < (↑k : Int)) = true) (p1_1 : a4 < (↑k : Int)) (k1_2 : decide (IntKind.i64.wrap (r44.v1 g (r43.v0 p a4) (r43.v1 p a4) + IntKind.i64.wrap (r43.v2 n p a4 * j1)) > r43.v3 p a4) = true) (p1_2 : IntKind.i64.wrap (r44.v1 g (r43.v0 p a4) (r43.v1 p a4) + IntKind.i64.wrap (r43.v2 n p a4 * j1)) > r43.v3 p a4) (bv12 : Nat) (bl12 : List Int) (b13 : Int) (hinv : L20ab.inv n g j1 j2 k p a4 bv12 bl12 b13) (a0 : Nat) (a1 : List Int) (hN : L20ab.run g p a4 bv12 bl12 b13 = (.e0 a0 a1 : L20ab.O)) : LoopTo Try.prog (loopN Try.f20 1) (L20ab.T n g j1 j2 k p a4 bv12 bl12 b13) (L20ab.H n g j1 j2 k p a4 bv12 bl12 b13) (Exit.exit 2) (L20ab.X n g j1 j2 k p a4 (.e0 a0 a1 : L20ab.O)) (L20ab.XH n g j1 j2 k p a4 (.e0 a0 a1 : L20ab.O)) := by
  have h_ := L20ab.spec n g hn j1 j2 k p hk hr a4 i20a_0 i20a_1 k1_1 p1_1 k1_2 p1_2 (((r43.v1 p a4 - b13).toNat) + 1) (bv12, bl12, b13) hinv (Nat.lt_succ_self _)
  unfold L20ab.run at hN
  simp only [hN] at h_
  exact h_
theorem L20ab.len0_1 (g : Nat → PD) (p : Nat → PD) (a4 : Int) : ∀ (m_ : Nat) (bv12 : Nat) (bl12 : List Int) (b13 : Int) (a0_ : Nat) (a1_ : List Int), L20ab.N g p a4 m_ bv12 bl12 b13 = (.e0 a0_ a1_ : L20ab.O) → (a1_).length ≤ (bl12).length + m_ := by
  intro m_
  induction m_ with
  | zero =>
    intro bv12 bl12 b13 a0_ a1_ h_
    simp only [L20ab.N] at h_
    cases h_
    exact Nat.zero_le _
  | succ m_ ih_ =>
    intro bv12 bl12 b13 a0_ a1_ h_
    cases h1 : decide (b13 < r43.v1 p a4) with
    | true =>
      have h1p := of_decide_eq_true h1
      (simp only [L20ab.N, h1, cond_true, cond_false] at h_; first | (have := ih_ _ _ _ _ _ h_; simp only [List.length_append, List.length_cons, List.length_nil] at this; omega) | (cases h_; done) | (cases h_; omega))
    | false =>
      have h1p := of_decide_eq_false h1
      (simp only [L20ab.N, h1, cond_true, cond_false] at h_; first | (have := ih_ _ _ _ _ _ h_; simp only [List.length_append, List.length_cons, List.length_nil] at this; omega) | (cases h_; done) | (cases h_; omega))
theorem L20ab.lenR0_1 (g : Nat → PD) (p : Nat → PD) (a4 : Int) {bv12 : Nat} {bl12 : List Int} {b13 : Int} {a0_ : Nat} {a1_ : List Int} (h_ : L20ab.run g p a4 bv12 bl12 b13 = (.e0 a0_ a1_ : L20ab.O)) : (a1_).length ≤ (bl12).length + (((r43.v1 p a4 - b13).toNat) + 1) := L20ab.len0_1 g p a4 _ bv12 bl12 b13 a0_ a1_ h_

inductive L20abx.O where
  | e0 (a0 : Nat) (a1 : List Int)
noncomputable def L20abx.T (n : Nat) (g : Nat → PD) (j1 : Int) (j2 : Int) (k : Nat) (p : Nat → PD) (a4 : Int) (bv12 : Nat) (bl12 : List Int) (b13 : Int) : List AV := mkT 87 [(1, AV.ptr 0 1 4 0 0), (4, AV.int IntKind.i64 a4), (6, AV.int IntKind.i64 (r43.v1 p a4)), (11, AV.bool (decide (IntKind.i64.wrap (r44.v1 g (r43.v0 p a4) (r43.v1 p a4) + IntKind.i64.wrap (r43.v2 n p a4 * j1)) > r43.v3 p a4))), (12, AV.ms 1 bv12 1 0 bl12.length), (13, AV.int IntKind.i64 b13)]
noncomputable def L20abx.H (n : Nat) (g : Nat → PD) (j1 : Int) (j2 : Int) (k : Nat) (p : Nat → PD) (a4 : Int) (bv12 : Nat) (bl12 : List Int) (b13 : Int) : AHeap := [AObj.var (AV.agg [AV.sl 2 n fun (i : Nat) => AV.agg [AV.int IntKind.i64 (g i).lo, AV.int IntKind.i64 (g i).hi], AV.int IntKind.i64 j1, AV.int IntKind.i64 j2, AV.sl 2 k fun (i : Nat) => AV.agg [AV.int IntKind.i64 (p i).lo, AV.int IntKind.i64 (p i).hi]]), AObj.row 1 bv12 (Col.ints IntKind.i64 bl12)]
def L20abx.inv (n : Nat) (g : Nat → PD) (j1 : Int) (j2 : Int) (k : Nat) (p : Nat → PD) (a4 : Int) (bv12 : Nat) (bl12 : List Int) (b13 : Int) : Prop := r43.v0 p a4 ≤ b13 ∧ (b13 ≤ r43.v1 p a4 ∨ b13 ≤ r43.v0 p a4) ∧ (↑bl12.length : Int) ≤ b13 - r43.v0 p a4
noncomputable def L20abx.mu (n : Nat) (g : Nat → PD) (j1 : Int) (j2 : Int) (k : Nat) (p : Nat → PD) (a4 : Int) (bv12 : Nat) (bl12 : List Int) (b13 : Int) : Nat := (r43.v1 p a4 - b13).toNat
noncomputable def L20abx.E : L20abx.O → Exit
  | .e0 a0 a1 => Exit.exit 2
noncomputable def L20abx.X (n : Nat) (g : Nat → PD) (j1 : Int) (j2 : Int) (k : Nat) (p : Nat → PD) (a4 : Int) : L20abx.O → List AV
  | .e0 a0 a1 => mkT 87 [(4, (AV.int IntKind.i64 a4)), (12, (AV.ms 1 a0 1 0 (List.length a1)))]
noncomputable def L20abx.XH (n : Nat) (g : Nat → PD) (j1 : Int) (j2 : Int) (k : Nat) (p : Nat → PD) (a4 : Int) : L20abx.O → AHeap
  | .e0 a0 a1 => ((AObj.var (AV.agg [AV.sl 2 n fun (i : Nat) => AV.agg [AV.int IntKind.i64 (g i).lo, AV.int IntKind.i64 (g i).hi], AV.int IntKind.i64 j1, AV.int IntKind.i64 j2, AV.sl 2 k fun (i : Nat) => AV.agg [AV.int IntKind.i64 (p i).lo, AV.int IntKind.i64 (p i).hi]])) :: ((AObj.row 1 a0 (Col.ints IntKind.i64 a1)) :: ([])))
noncomputable def L20abx.N (g : Nat → PD) (p : Nat → PD) (a4 : Int) : Nat → Nat → (List Int) → Int → L20abx.O
  | 0, _, _, _ => .e0 default default
  | k_ + 1, bv12, bl12, b13 => (bif decide (b13 < r43.v1 p a4) then (L20abx.N g p a4 k_ (bv12 + 1) (bl12 ++ [(g b13.toNat).lo]) (IntKind.i64.wrap (b13 + 1))) else (.e0 (bv12) (bl12)))
noncomputable def L20abx.run (g : Nat → PD) (p : Nat → PD) (a4 : Int) (bv12 : Nat) (bl12 : List Int) (b13 : Int) : L20abx.O := L20abx.N g p a4 (((r43.v1 p a4 - b13).toNat) + 1) bv12 bl12 b13
def L20abx.Next (n : Nat) (g : Nat → PD) (j1 : Int) (j2 : Int) (k : Nat) (p : Nat → PD) (a4 : Int) (k_ : Nat) (z_ : Nat × (List Int) × Int) (T_ : List AV) (h_ : AHeap) : Prop := LNextP (fun (z_ : Nat × (List Int) × Int) => L20abx.T n g j1 j2 k p a4 z_.1 z_.2.1 z_.2.2) (fun (z_ : Nat × (List Int) × Int) => L20abx.H n g j1 j2 k p a4 z_.1 z_.2.1 z_.2.2) (fun (z_ : Nat × (List Int) × Int) => L20abx.inv n g j1 j2 k p a4 z_.1 z_.2.1 z_.2.2) (fun (z_ : Nat × (List Int) × Int) => L20abx.mu n g j1 j2 k p a4 z_.1 z_.2.1 z_.2.2) (fun (k_ : Nat) (z_ : Nat × (List Int) × Int) => L20abx.N g p a4 k_ z_.1 z_.2.1 z_.2.2) k_ z_ T_ h_
def L20abx.End (n : Nat) (g : Nat → PD) (j1 : Int) (j2 : Int) (k : Nat) (p : Nat → PD) (a4 : Int) (k_ : Nat) (z_ : Nat × (List Int) × Int) (e_ : Exit) (T_ : List AV) (h_ : AHeap) : Prop := LEndP (fun (z_ : Nat × (List Int) × Int) => L20abx.H n g j1 j2 k p a4 z_.1 z_.2.1 z_.2.2) (fun (k_ : Nat) (z_ : Nat × (List Int) × Int) => L20abx.N g p a4 k_ z_.1 z_.2.1 z_.2.2) L20abx.E (L20abx.X n g j1 j2 k p a4) (L20abx.XH n g j1 j2 k p a4) k_ z_ e_ T_ h_
theorem L20abx.nx (n : Nat) (g : Nat → PD) (j1 : Int) (j2 : Int) (k : Nat) (p : Nat → PD) (a4 : Int) {k_ : Nat} {z_ : Nat × (List Int) × Int} {h_ : AHeap} (s_ : Nat × (List Int) × Int) (h1 : L20abx.inv n g j1 j2 k p a4 s_.1 s_.2.1 s_.2.2) (h2 : L20abx.mu n g j1 j2 k p a4 s_.1 s_.2.1 s_.2.2 < L20abx.mu n g j1 j2 k p a4 z_.1 z_.2.1 z_.2.2) (h3 : L20abx.N g p a4 k_ s_.1 s_.2.1 s_.2.2 = L20abx.N g p a4 (k_ + 1) z_.1 z_.2.1 z_.2.2) (h4 : PopOk (L20abx.H n g j1 j2 k p a4 z_.1 z_.2.1 z_.2.2) h_ (L20abx.T n g j1 j2 k p a4 s_.1 s_.2.1 s_.2.2) (L20abx.H n g j1 j2 k p a4 s_.1 s_.2.1 s_.2.2)) : LNextP (fun (z_ : Nat × (List Int) × Int) => L20abx.T n g j1 j2 k p a4 z_.1 z_.2.1 z_.2.2) (fun (z_ : Nat × (List Int) × Int) => L20abx.H n g j1 j2 k p a4 z_.1 z_.2.1 z_.2.2) (fun (z_ : Nat × (List Int) × Int) => L20abx.inv n g j1 j2 k p a4 z_.1 z_.2.1 z_.2.2) (fun (z_ : Nat × (List Int) × Int) => L20abx.mu n g j1 j2 k p a4 z_.1 z_.2.1 z_.2.2) (fun (k_ : Nat) (z_ : Nat × (List Int) × Int) => L20abx.N g p a4 k_ z_.1 z_.2.1 z_.2.2) k_ z_ (L20abx.T n g j1 j2 k p a4 s_.1 s_.2.1 s_.2.2) h_ := LNextP.mk (Tm := (fun (z_ : Nat × (List Int) × Int) => L20abx.T n g j1 j2 k p a4 z_.1 z_.2.1 z_.2.2)) (Hp := (fun (z_ : Nat × (List Int) × Int) => L20abx.H n g j1 j2 k p a4 z_.1 z_.2.1 z_.2.2)) (inv := (fun (z_ : Nat × (List Int) × Int) => L20abx.inv n g j1 j2 k p a4 z_.1 z_.2.1 z_.2.2)) (mu := (fun (z_ : Nat × (List Int) × Int) => L20abx.mu n g j1 j2 k p a4 z_.1 z_.2.1 z_.2.2)) (l := (fun (k_ : Nat) (z_ : Nat × (List Int) × Int) => L20abx.N g p a4 k_ z_.1 z_.2.1 z_.2.2)) s_ h1 h2 h3 h4
theorem L20abx.en (n : Nat) (g : Nat → PD) (j1 : Int) (j2 : Int) (k : Nat) (p : Nat → PD) (a4 : Int) {k_ : Nat} {z_ : Nat × (List Int) × Int} {h_ : AHeap} (o_ : L20abx.O) (h3 : L20abx.N g p a4 (k_ + 1) z_.1 z_.2.1 z_.2.2 = o_) (h4 : PopOk (L20abx.H n g j1 j2 k p a4 z_.1 z_.2.1 z_.2.2) h_ (L20abx.X n g j1 j2 k p a4 o_) (L20abx.XH n g j1 j2 k p a4 o_)) : LEndP (fun (z_ : Nat × (List Int) × Int) => L20abx.H n g j1 j2 k p a4 z_.1 z_.2.1 z_.2.2) (fun (k_ : Nat) (z_ : Nat × (List Int) × Int) => L20abx.N g p a4 k_ z_.1 z_.2.1 z_.2.2) L20abx.E (L20abx.X n g j1 j2 k p a4) (L20abx.XH n g j1 j2 k p a4) k_ z_ (L20abx.E o_) (L20abx.X n g j1 j2 k p a4 o_) h_ := LEndP.mk (Hp := (fun (z_ : Nat × (List Int) × Int) => L20abx.H n g j1 j2 k p a4 z_.1 z_.2.1 z_.2.2)) (l := (fun (k_ : Nat) (z_ : Nat × (List Int) × Int) => L20abx.N g p a4 k_ z_.1 z_.2.1 z_.2.2)) (oE := L20abx.E) (oT := L20abx.X n g j1 j2 k p a4) (oH := L20abx.XH n g j1 j2 k p a4) o_ h3 h4
theorem L20abx.spec (n : Nat) (g : Nat → PD) (hn : n ≤ 9223372036854775807) (j1 : Int) (j2 : Int) (k : Nat) (p : Nat → PD) (hk : k ≤ 30) (hr : ROk n g j1 j2 k p) (a4 : Int) (i20a_0 : 0 ≤ a4) (i20a_1 : a4 ≤ (↑k : Int) ∨ a4 ≤ 0) (k1_1 : decide (a4 < (↑k : Int)) = true) (p1_1 : a4 < (↑k : Int)) (k1_2 : decide (IntKind.i64.wrap (r44.v1 g (r43.v0 p a4) (r43.v1 p a4) + IntKind.i64.wrap (r43.v2 n p a4 * j1)) > r43.v3 p a4) = false) (p1_2 : ¬IntKind.i64.wrap (r44.v1 g (r43.v0 p a4) (r43.v1 p a4) + IntKind.i64.wrap (r43.v2 n p a4 * j1)) > r43.v3 p a4) (k1_3 : decide (IntKind.i64.wrap (r44.v0 g (r43.v0 p a4) (r43.v1 p a4) + IntKind.i64.wrap (r43.v2 n p a4 * j2)) ≥ r43.v3 p a4) = false) (p1_3 : ¬IntKind.i64.wrap (r44.v0 g (r43.v0 p a4) (r43.v1 p a4) + IntKind.i64.wrap (r43.v2 n p a4 * j2)) ≥ r43.v3 p a4) (k_ : Nat) (z_ : Nat × (List Int) × Int) (hi_ : L20abx.inv n g j1 j2 k p a4 z_.1 z_.2.1 z_.2.2) (hm_ : L20abx.mu n g j1 j2 k p a4 z_.1 z_.2.1 z_.2.2 < k_) : LoopTo Try.prog (loopN Try.f20 1) (L20abx.T n g j1 j2 k p a4 z_.1 z_.2.1 z_.2.2) (L20abx.H n g j1 j2 k p a4 z_.1 z_.2.1 z_.2.2) (L20abx.E (L20abx.N g p a4 k_ z_.1 z_.2.1 z_.2.2)) (L20abx.X n g j1 j2 k p a4 (L20abx.N g p a4 k_ z_.1 z_.2.1 z_.2.2)) (L20abx.XH n g j1 j2 k p a4 (L20abx.N g p a4 k_ z_.1 z_.2.1 z_.2.2)) := by
  refine LoopTo.fuelP mix (fun (z_ : Nat × (List Int) × Int) => L20abx.T n g j1 j2 k p a4 z_.1 z_.2.1 z_.2.2) (fun (z_ : Nat × (List Int) × Int) => L20abx.H n g j1 j2 k p a4 z_.1 z_.2.1 z_.2.2) (fun (z_ : Nat × (List Int) × Int) => L20abx.inv n g j1 j2 k p a4 z_.1 z_.2.1 z_.2.2) (fun (z_ : Nat × (List Int) × Int) => L20abx.mu n g j1 j2 k p a4 z_.1 z_.2.1 z_.2.2) (fun (k_ : Nat) (z_ : Nat × (List Int) × Int) => L20abx.N g p a4 k_ z_.1 z_.2.1 z_.2.2) L20abx.E (L20abx.X n g j1 j2 k p a4) (L20abx.XH n g j1 j2 k p a4) (others 87 [1, 4, 6, 11, 12, 13]) (others 87 [2, 3]) (others 87 [4, 12]) ?_ k_ z_ hi_ hm_
  clear hm_ hi_ z_ k_
  intro k_ z_ hinv hmu
  obtain ⟨bv12, bl12, b13⟩ := z_
  have hinv : r43.v0 p a4 ≤ b13 ∧ (b13 ≤ r43.v1 p a4 ∨ b13 ≤ r43.v0 p a4) ∧ (↑bl12.length : Int) ≤ b13 - r43.v0 p a4 := hinv
  have hmu : ((r43.v1 p a4 - b13).toNat) < k_ + 1 := hmu
  cases h1 : decide (b13 < r43.v1 p a4) with
  | true =>
    have h1p := of_decide_eq_true h1
    try have := bd43 (by first | assumption | omega) (by first | assumption | omega) (by first | assumption | omega) (by first | assumption | omega)
    try have := L20ab.lenR0_1 _ _ _ (by assumption); (try simp only [List.length_nil] at this)
    have o0 : (0 : Int) ≤ b13 := by first | assumption | omega | (simp_all; done)
    have o1 : b13 < (↑n : Int) := by first | assumption | omega | (simp_all; done)
    have o2 : (bl12.length + (1 : Nat)) * (8 : Nat) ≤ (140737488355328 : Nat) := by first | assumption | omega | (simp only [List.length_append, List.length_cons, List.length_nil, List.length_map]; omega) | (simp_all; done)
    have o3 : bl12.length = (Col.ints IntKind.i64 bl12).len := by first | assumption | omega | (simp only [List.length_append, List.length_cons, List.length_nil, List.length_map]; omega) | rfl | (exact Nat.le_refl _) | (simp [Col.len]; done) | (simp_all; done)
    try have := IntWalk.i64_in (b13 + 1) (by omega)
    have o4 : r43.v0 p a4 ≤ IntKind.i64.wrap (b13 + (1 : Int)) := by first | assumption | omega | (simp_all; done)
    have o5 : IntKind.i64.wrap (b13 + (1 : Int)) ≤ r43.v1 p a4 ∨ IntKind.i64.wrap (b13 + (1 : Int)) ≤ r43.v0 p a4 := by first | assumption | omega | (simp_all; done)
    have o6 : (↑(bl12 ++ [(g b13.toNat).lo]).length : Int) ≤ IntKind.i64.wrap (b13 + (1 : Int)) - r43.v0 p a4 := by first | assumption | omega | (simp only [List.length_append, List.length_cons, List.length_nil, List.length_map]; omega) | (simp_all; done)
    have o7 : (r43.v1 p a4 - IntKind.i64.wrap (b13 + (1 : Int))).toNat < (r43.v1 p a4 - b13).toNat := by first | assumption | omega | (simp_all; done)
    exact ⟨[.b true, .b false, .app .one false], kmp (by kernel_rfl) (And.intro h1 (And.intro k1_2 (And.intro (And.intro o0 o1) (And.intro (And.intro (show (1 : Nat) = (1 : Nat) by first | decide | exact Int.NonNeg.mk _) (And.intro (show AppMode.one.needs 1 fun (a : Nat) => (Col.ofList [AV.int IntKind.i64 (g b13.toNat).lo]).get a by first | exact ⟨rfl, rfl⟩ | simp [AppMode.needs]) (And.intro o2 (And.intro (rfl : bv12 = bv12) (And.intro (show (0 : Nat) = (0 : Nat) by first | decide | exact Int.NonNeg.mk _) o3))))) (L20abx.nx n g j1 j2 k p a4 (k_ := k_) (z_ := (bv12, bl12, b13)) ((bv12 + 1, bl12 ++ [(g b13.toNat).lo], IntKind.i64.wrap (b13 + 1))) (And.intro o4 (And.intro o5 o6)) o7 (by first | (simp only [L20abx.N, h1, cond_true, cond_false]; done) | (try unfold L20abx.N; try simp only [h1, cond_true, cond_false]; try rfl; done)) PopOk.same)))))⟩
  | false =>
    have h1p := of_decide_eq_false h1
    exact ⟨[.b false], kmp (by kernel_rfl) (And.intro h1 (L20abx.en n g j1 j2 k p a4 (k_ := k_) (z_ := (bv12, bl12, b13)) (.e0 (bv12) (bl12) : L20abx.O) (by first | (simp only [L20abx.N, h1, cond_true, cond_false]; done) | (try unfold L20abx.N; try simp only [h1, cond_true, cond_false]; try rfl; done)) PopOk.same))⟩
theorem L20abx.e0 (n : Nat) (g : Nat → PD) (hn : n ≤ 9223372036854775807) (j1 : Int) (j2 : Int) (k : Nat) (p : Nat → PD) (hk : k ≤ 30) (hr : ROk n g j1 j2 k p) (a4 : Int) (i20a_0 : 0 ≤ a4) (i20a_1 : a4 ≤ (↑k : Int) ∨ a4 ≤ 0) (k1_1 : decide (a4 < (↑k : Int)) = true) (p1_1 : a4 < (↑k : Int)) (k1_2 : decide (IntKind.i64.wrap (r44.v1 g (r43.v0 p a4) (r43.v1 p a4) + IntKind.i64.wrap (r43.v2 n p a4 * j1)) > r43.v3 p a4) = false) (p1_2 : ¬IntKind.i64.wrap (r44.v1 g (r43.v0 p a4) (r43.v1 p a4) + IntKind.i64.wrap (r43.v2 n p a4 * j1)) > r43.v3 p a4) (k1_3 : decide (IntKind.i64.wrap (r44.v0 g (r43.v0 p a4) (r43.v1 p a4) + IntKind.i64.wrap (r43.v2 n p a4 * j2)) ≥ r43.v3 p a4) = false) (p1_3 : ¬IntKind.i64.wrap (r44.v0 g (r43.v0 p a4) (r43.v1 p a4) + IntKind.i64.wrap (r43.v2 n p a4 * j2)) ≥ r43.v3 p a4) (bv12 : Nat) (bl12 : List Int) (b13 : Int) (hinv : L20abx.inv n g j1 j2 k p a4 bv12 bl12 b13) (a0 : Nat) (a1 : List Int) (hN : L20abx.run g p a4 bv12 bl12 b13 = (.e0 a0 a1 : L20abx.O)) : LoopTo Try.prog (loopN Try.f20 1) (L20abx.T n g j1 j2 k p a4 bv12 bl12 b13) (L20abx.H n g j1 j2 k p a4 bv12 bl12 b13) (Exit.exit 2) (L20abx.X n g j1 j2 k p a4 (.e0 a0 a1 : L20abx.O)) (L20abx.XH n g j1 j2 k p a4 (.e0 a0 a1 : L20abx.O)) := by
  have h_ := L20abx.spec n g hn j1 j2 k p hk hr a4 i20a_0 i20a_1 k1_1 p1_1 k1_2 p1_2 k1_3 p1_3 (((r43.v1 p a4 - b13).toNat) + 1) (bv12, bl12, b13) hinv (Nat.lt_succ_self _)
  unfold L20abx.run at hN
  simp only [hN] at h_
  exact h_
theorem L20abx.len0_1 (g : Nat → PD) (p : Nat → PD) (a4 : Int) : ∀ (m_ : Nat) (bv12 : Nat) (bl12 : List Int) (b13 : Int) (a0_ : Nat) (a1_ : List Int), L20abx.N g p a4 m_ bv12 bl12 b13 = (.e0 a0_ a1_ : L20abx.O) → (a1_).length ≤ (bl12).length + m_ := by
  intro m_
  induction m_ with
  | zero =>
    intro bv12 bl12 b13 a0_ a1_ h_
    simp only [L20abx.N] at h_
    cases h_
    exact Nat.zero_le _
  | succ m_ ih_ =>
    intro bv12 bl12 b13 a0_ a1_ h_
    cases h1 : decide (b13 < r43.v1 p a4) with
    | true =>
      have h1p := of_decide_eq_true h1
      (simp only [L20abx.N, h1, cond_true, cond_false] at h_; first | (have := ih_ _ _ _ _ _ h_; simp only [List.length_append, List.length_cons, List.length_nil] at this; omega) | (cases h_; done) | (cases h_; omega))
    | false =>
      have h1p := of_decide_eq_false h1
      (simp only [L20abx.N, h1, cond_true, cond_false] at h_; first | (have := ih_ _ _ _ _ _ h_; simp only [List.length_append, List.length_cons, List.length_nil] at this; omega) | (cases h_; done) | (cases h_; omega))
theorem L20abx.lenR0_1 (g : Nat → PD) (p : Nat → PD) (a4 : Int) {bv12 : Nat} {bl12 : List Int} {b13 : Int} {a0_ : Nat} {a1_ : List Int} (h_ : L20abx.run g p a4 bv12 bl12 b13 = (.e0 a0_ a1_ : L20abx.O)) : (a1_).length ≤ (bl12).length + (((r43.v1 p a4 - b13).toNat) + 1) := L20abx.len0_1 g p a4 _ bv12 bl12 b13 a0_ a1_ h_

inductive L20a.O where
  | e0 (a0 : Int) (a1 : Nat) (a2 : List Int)
  | e1
noncomputable def L20a.T (n : Nat) (g : Nat → PD) (j1 : Int) (j2 : Int) (k : Nat) (p : Nat → PD) (a4 : Int) : List AV := mkT 87 [(1, AV.ptr 0 1 4 0 0), (4, AV.int IntKind.i64 a4)]
noncomputable def L20a.H (n : Nat) (g : Nat → PD) (j1 : Int) (j2 : Int) (k : Nat) (p : Nat → PD) (a4 : Int) : AHeap := [AObj.var (AV.agg [AV.sl 2 n fun (i : Nat) => AV.agg [AV.int IntKind.i64 (g i).lo, AV.int IntKind.i64 (g i).hi], AV.int IntKind.i64 j1, AV.int IntKind.i64 j2, AV.sl 2 k fun (i : Nat) => AV.agg [AV.int IntKind.i64 (p i).lo, AV.int IntKind.i64 (p i).hi]])]
def L20a.inv (n : Nat) (g : Nat → PD) (j1 : Int) (j2 : Int) (k : Nat) (p : Nat → PD) (a4 : Int) : Prop := 0 ≤ a4 ∧ (a4 ≤ (↑k : Int) ∨ a4 ≤ 0)
noncomputable def L20a.mu (n : Nat) (g : Nat → PD) (j1 : Int) (j2 : Int) (k : Nat) (p : Nat → PD) (a4 : Int) : Nat := ((↑k : Int) - a4).toNat
noncomputable def L20a.E : L20a.O → Exit
  | .e0 a0 a1 a2 => Exit.ret
  | .e1 => Exit.exit 0
noncomputable def L20a.X (n : Nat) (g : Nat → PD) (j1 : Int) (j2 : Int) (k : Nat) (p : Nat → PD) : L20a.O → List AV
  | .e0 a0 a1 a2 => mkT 87 [(2, (AV.int IntKind.i64 a0)), (3, (AV.ms 1 a1 1 0 (List.length a2)))]
  | .e1 => mkT 87 []
noncomputable def L20a.XH (n : Nat) (g : Nat → PD) (j1 : Int) (j2 : Int) (k : Nat) (p : Nat → PD) : L20a.O → AHeap
  | .e0 a0 a1 a2 => ((AObj.var (AV.agg [AV.sl 2 n fun (i : Nat) => AV.agg [AV.int IntKind.i64 (g i).lo, AV.int IntKind.i64 (g i).hi], AV.int IntKind.i64 j1, AV.int IntKind.i64 j2, AV.sl 2 k fun (i : Nat) => AV.agg [AV.int IntKind.i64 (p i).lo, AV.int IntKind.i64 (p i).hi]])) :: ((AObj.row 1 a1 (Col.ints IntKind.i64 a2)) :: ([])))
  | .e1 => ([AObj.var (AV.agg [AV.sl 2 n fun (i : Nat) => AV.agg [AV.int IntKind.i64 (g i).lo, AV.int IntKind.i64 (g i).hi], AV.int IntKind.i64 j1, AV.int IntKind.i64 j2, AV.sl 2 k fun (i : Nat) => AV.agg [AV.int IntKind.i64 (p i).lo, AV.int IntKind.i64 (p i).hi]])])
noncomputable def L20a.N (n : Nat) (g : Nat → PD) (j1 : Int) (j2 : Int) (k : Nat) (p : Nat → PD) : Nat → Int → L20a.O
  | 0, _ => .e0 default default default
  | k_ + 1, a4 => (bif decide (a4 < (↑k : Int)) then (bif decide (IntKind.i64.wrap (r44.v1 g (r43.v0 p a4) (r43.v1 p a4) + IntKind.i64.wrap (r43.v2 n p a4 * j1)) > r43.v3 p a4) then (match L20ab.run g p a4 0 [] (r43.v0 p a4) with | .e0 h3d0 h3d1 => (.e0 (a4) (h3d0) (h3d1)) ) else (bif decide (IntKind.i64.wrap (r44.v0 g (r43.v0 p a4) (r43.v1 p a4) + IntKind.i64.wrap (r43.v2 n p a4 * j2)) ≥ r43.v3 p a4) then (L20a.N n g j1 j2 k p k_ (IntKind.i64.wrap (a4 + 1))) else (match L20abx.run g p a4 0 [] (r43.v0 p a4) with | .e0 h4d0 h4d1 => (.e0 (a4) (h4d0) (h4d1)) ))) else (.e1))
noncomputable def L20a.run (n : Nat) (g : Nat → PD) (j1 : Int) (j2 : Int) (k : Nat) (p : Nat → PD) (a4 : Int) : L20a.O := L20a.N n g j1 j2 k p ((((↑k : Int) - a4).toNat) + 1) a4
def L20a.Next (n : Nat) (g : Nat → PD) (j1 : Int) (j2 : Int) (k : Nat) (p : Nat → PD) (k_ : Nat) (z_ : Int) (T_ : List AV) (h_ : AHeap) : Prop := LNextP (fun (z_ : Int) => L20a.T n g j1 j2 k p z_) (fun (z_ : Int) => L20a.H n g j1 j2 k p z_) (fun (z_ : Int) => L20a.inv n g j1 j2 k p z_) (fun (z_ : Int) => L20a.mu n g j1 j2 k p z_) (fun (k_ : Nat) (z_ : Int) => L20a.N n g j1 j2 k p k_ z_) k_ z_ T_ h_
def L20a.End (n : Nat) (g : Nat → PD) (j1 : Int) (j2 : Int) (k : Nat) (p : Nat → PD) (k_ : Nat) (z_ : Int) (e_ : Exit) (T_ : List AV) (h_ : AHeap) : Prop := LEndP (fun (z_ : Int) => L20a.H n g j1 j2 k p z_) (fun (k_ : Nat) (z_ : Int) => L20a.N n g j1 j2 k p k_ z_) L20a.E (L20a.X n g j1 j2 k p) (L20a.XH n g j1 j2 k p) k_ z_ e_ T_ h_
theorem L20a.nx (n : Nat) (g : Nat → PD) (j1 : Int) (j2 : Int) (k : Nat) (p : Nat → PD) {k_ : Nat} {z_ : Int} {h_ : AHeap} (s_ : Int) (h1 : L20a.inv n g j1 j2 k p s_) (h2 : L20a.mu n g j1 j2 k p s_ < L20a.mu n g j1 j2 k p z_) (h3 : L20a.N n g j1 j2 k p k_ s_ = L20a.N n g j1 j2 k p (k_ + 1) z_) (h4 : PopOk (L20a.H n g j1 j2 k p z_) h_ (L20a.T n g j1 j2 k p s_) (L20a.H n g j1 j2 k p s_)) : LNextP (fun (z_ : Int) => L20a.T n g j1 j2 k p z_) (fun (z_ : Int) => L20a.H n g j1 j2 k p z_) (fun (z_ : Int) => L20a.inv n g j1 j2 k p z_) (fun (z_ : Int) => L20a.mu n g j1 j2 k p z_) (fun (k_ : Nat) (z_ : Int) => L20a.N n g j1 j2 k p k_ z_) k_ z_ (L20a.T n g j1 j2 k p s_) h_ := LNextP.mk (Tm := (fun (z_ : Int) => L20a.T n g j1 j2 k p z_)) (Hp := (fun (z_ : Int) => L20a.H n g j1 j2 k p z_)) (inv := (fun (z_ : Int) => L20a.inv n g j1 j2 k p z_)) (mu := (fun (z_ : Int) => L20a.mu n g j1 j2 k p z_)) (l := (fun (k_ : Nat) (z_ : Int) => L20a.N n g j1 j2 k p k_ z_)) s_ h1 h2 h3 h4
theorem L20a.en (n : Nat) (g : Nat → PD) (j1 : Int) (j2 : Int) (k : Nat) (p : Nat → PD) {k_ : Nat} {z_ : Int} {h_ : AHeap} (o_ : L20a.O) (h3 : L20a.N n g j1 j2 k p (k_ + 1) z_ = o_) (h4 : PopOk (L20a.H n g j1 j2 k p z_) h_ (L20a.X n g j1 j2 k p o_) (L20a.XH n g j1 j2 k p o_)) : LEndP (fun (z_ : Int) => L20a.H n g j1 j2 k p z_) (fun (k_ : Nat) (z_ : Int) => L20a.N n g j1 j2 k p k_ z_) L20a.E (L20a.X n g j1 j2 k p) (L20a.XH n g j1 j2 k p) k_ z_ (L20a.E o_) (L20a.X n g j1 j2 k p o_) h_ := LEndP.mk (Hp := (fun (z_ : Int) => L20a.H n g j1 j2 k p z_)) (l := (fun (k_ : Nat) (z_ : Int) => L20a.N n g j1 j2 k p k_ z_)) (oE := L20a.E) (oT := L20a.X n g j1 j2 k p) (oH := L20a.XH n g j1 j2 k p) o_ h3 h4
noncomputable abbrev L20a.h0 (n : Nat) (g : Nat → PD) (j1 : Int) (j2 : Int) (k : Nat) (p : Nat → PD) (a4 : Int) : AHeap := ([AObj.var (AV.agg [AV.sl 2 n fun (i : Nat) => AV.agg [AV.int IntKind.i64 (g i).lo, AV.int IntKind.i64 (g i).hi], AV.int IntKind.i64 j1, AV.int IntKind.i64 j2, AV.sl 2 k fun (i : Nat) => AV.agg [AV.int IntKind.i64 (p i).lo, AV.int IntKind.i64 (p i).hi]])])
theorem L20a.spec (n : Nat) (g : Nat → PD) (hn : n ≤ 9223372036854775807) (j1 : Int) (j2 : Int) (k : Nat) (p : Nat → PD) (hk : k ≤ 30) (hr : ROk n g j1 j2 k p) (k_ : Nat) (z_ : Int) (hi_ : L20a.inv n g j1 j2 k p z_) (hm_ : L20a.mu n g j1 j2 k p z_ < k_) : LoopTo Try.prog (loopN Try.f20 0) (L20a.T n g j1 j2 k p z_) (L20a.H n g j1 j2 k p z_) (L20a.E (L20a.N n g j1 j2 k p k_ z_)) (L20a.X n g j1 j2 k p (L20a.N n g j1 j2 k p k_ z_)) (L20a.XH n g j1 j2 k p (L20a.N n g j1 j2 k p k_ z_)) := by
  refine LoopTo.fuelP mix (fun (z_ : Int) => L20a.T n g j1 j2 k p z_) (fun (z_ : Int) => L20a.H n g j1 j2 k p z_) (fun (z_ : Int) => L20a.inv n g j1 j2 k p z_) (fun (z_ : Int) => L20a.mu n g j1 j2 k p z_) (fun (k_ : Nat) (z_ : Int) => L20a.N n g j1 j2 k p k_ z_) L20a.E (L20a.X n g j1 j2 k p) (L20a.XH n g j1 j2 k p) (others 87 [1, 4]) (others 87 [2, 3]) (others 87 []) ?_ k_ z_ hi_ hm_
  clear hm_ hi_ z_ k_
  intro k_ z_ hinv hmu
  revert hinv hmu; revert z_; intro a4 hinv hmu
  have hinv : 0 ≤ a4 ∧ (a4 ≤ (↑k : Int) ∨ a4 ≤ 0) := hinv
  have hmu : (((↑k : Int) - a4).toNat) < k_ + 1 := hmu
  cases h1 : decide (a4 < (↑k : Int)) with
  | true =>
    have h1p := of_decide_eq_true h1
    try have := bd43 (by first | assumption | omega) (by first | assumption | omega) (by first | assumption | omega) (by first | assumption | omega)
    have o0 : n ≤ (9223372036854775807 : Nat) := by first | assumption | omega | (simp_all; done)
    have o1 : k ≤ (30 : Nat) := by first | assumption | omega | (simp_all; done)
    have o2 : (0 : Int) ≤ a4 := by first | assumption | omega | (simp_all; done)
    have o3 : a4 < (↑k : Int) := by first | assumption | omega | (simp_all; done)
    have o4 : (0 : Int) ≤ r43.v0 p a4 := by first | assumption | omega | (apply hint43a <;> first | assumption | omega) | (simp_all; done)
    have o5 : r43.v0 p a4 ≤ r43.v1 p a4 := by first | assumption | omega | (apply hint43b <;> first | assumption | omega) | (simp_all; done)
    have o6 : r43.v1 p a4 ≤ (↑n : Int) := by first | assumption | omega | (apply hint43c <;> first | assumption | omega) | (simp_all; done)
    have o7 : r43.v1 p a4 ≤ (9223372036854775807 : Int) := by first | assumption | omega | (apply hint43d <;> first | assumption | omega) | (simp_all; done)
    cases h2 : decide (IntKind.i64.wrap (r44.v1 g (r43.v0 p a4) (r43.v1 p a4) + IntKind.i64.wrap (r43.v2 n p a4 * j1)) > r43.v3 p a4) with
    | true =>
      have h2p := of_decide_eq_true h2
      try have := bd43 (by first | assumption | omega) (by first | assumption | omega) (by first | assumption | omega) (by first | assumption | omega)
      have o8 : ROk n g j1 j2 k p := by first | assumption | (simp_all; done)
      have o9 : a4 ≤ (↑k : Int) ∨ a4 ≤ (0 : Int) := by first | assumption | omega | (simp_all; done)
      have o10 : decide (a4 < (↑k : Int)) = true := by first | assumption | omega | (simp_all; done)
      try have := IntWalk.i64_in (r43.v2 n p a4 * j1) (by omega)
      try have := IntWalk.i64_in (r44.v1 g (r43.v0 p a4) (r43.v1 p a4) + IntKind.i64.wrap (r43.v2 n p a4 * j1)) (by omega)
      have o11 : decide (IntKind.i64.wrap (r44.v1 g (r43.v0 p a4) (r43.v1 p a4) + IntKind.i64.wrap (r43.v2 n p a4 * j1)) > r43.v3 p a4) = true := by first | assumption | omega | (simp_all; done)
      have o12 : IntKind.i64.wrap (r44.v1 g (r43.v0 p a4) (r43.v1 p a4) + IntKind.i64.wrap (r43.v2 n p a4 * j1)) > r43.v3 p a4 := by first | assumption | omega | (simp_all; done)
      have o13 : r43.v0 p a4 ≤ r43.v0 p a4 := by first | assumption | omega | (simp_all; done)
      have o14 : r43.v0 p a4 ≤ r43.v1 p a4 ∨ r43.v0 p a4 ≤ r43.v0 p a4 := by first | assumption | omega | (simp_all; done)
      have o15 : (0 : Int) ≤ r43.v0 p a4 - r43.v0 p a4 := by first | assumption | omega | (simp_all; done)
      cases h3 : L20ab.run g p a4 0 [] (r43.v0 p a4) with
      | e0 h3d0 h3d1 =>
        exact ⟨[.b true, .ret (AV.tup [AV.int IntKind.i64 (r43.v0 p a4), AV.int IntKind.i64 (r43.v1 p a4), AV.int IntKind.i64 (r43.v2 n p a4), AV.int IntKind.i64 (r43.v3 p a4)]) (L20a.h0 n g j1 j2 k p a4), .ret (AV.tup [AV.int IntKind.i64 (r44.v0 g (r43.v0 p a4) (r43.v1 p a4)), AV.int IntKind.i64 (r44.v1 g (r43.v0 p a4) (r43.v1 p a4))]) (L20a.h0 n g j1 j2 k p a4), .b false, .b false, .b false, .b false, .b false, .b false, .b false, .b false, .b false, .b false, .b false, .virt [] [(none, 12, 1, Col.ints IntKind.i64 [])], .loop (others 87 [1, 4, 6, 11, 12, 13]) (Exit.exit 2) (L20ab.X n g j1 j2 k p a4 (L20ab.O.e0 h3d0 h3d1)) (L20ab.XH n g j1 j2 k p a4 (L20ab.O.e0 h3d0 h3d1))], kmp (by kernel_rfl) (And.intro h1 (And.intro (r43 (n) (g) o0 (j1) (j2) (k) (p) o1 (a4) o2 o3 (L20a.h0 n g j1 j2 k p a4)) (And.intro (r44 (n) (g) o0 (j1) (j2) (k) (p) o1 (r43.v0 p a4) (r43.v1 p a4) o4 o5 o6 o7 (L20a.h0 n g j1 j2 k p a4)) (And.intro (show (bnot (decide (IntKind.i64.wrap (r44.v1 g (r43.v0 p a4) (r43.v1 p a4) + IntKind.i64.wrap (r43.v2 n p a4 * j1)) > r43.v3 p a4))) = false by rw [h2]; try rfl) (And.intro (show (bnot (decide (IntKind.i64.wrap (r44.v1 g (r43.v0 p a4) (r43.v1 p a4) + IntKind.i64.wrap (r43.v2 n p a4 * j1)) > r43.v3 p a4))) = false by rw [h2]; try rfl) (And.intro (show (bnot (decide (IntKind.i64.wrap (r44.v1 g (r43.v0 p a4) (r43.v1 p a4) + IntKind.i64.wrap (r43.v2 n p a4 * j1)) > r43.v3 p a4))) = false by rw [h2]; try rfl) (And.intro (show (bnot (decide (IntKind.i64.wrap (r44.v1 g (r43.v0 p a4) (r43.v1 p a4) + IntKind.i64.wrap (r43.v2 n p a4 * j1)) > r43.v3 p a4))) = false by rw [h2]; try rfl) (And.intro (show (bnot (decide (IntKind.i64.wrap (r44.v1 g (r43.v0 p a4) (r43.v1 p a4) + IntKind.i64.wrap (r43.v2 n p a4 * j1)) > r43.v3 p a4))) = false by rw [h2]; try rfl) (And.intro (show (bnot (decide (IntKind.i64.wrap (r44.v1 g (r43.v0 p a4) (r43.v1 p a4) + IntKind.i64.wrap (r43.v2 n p a4 * j1)) > r43.v3 p a4))) = false by rw [h2]; try rfl) (And.intro (show (bnot (decide (IntKind.i64.wrap (r44.v1 g (r43.v0 p a4) (r43.v1 p a4) + IntKind.i64.wrap (r43.v2 n p a4 * j1)) > r43.v3 p a4))) = false by rw [h2]; try rfl) (And.intro (show (bnot (decide (IntKind.i64.wrap (r44.v1 g (r43.v0 p a4) (r43.v1 p a4) + IntKind.i64.wrap (r43.v2 n p a4 * j1)) > r43.v3 p a4))) = false by rw [h2]; try rfl) (And.intro (show (bnot (decide (IntKind.i64.wrap (r44.v1 g (r43.v0 p a4) (r43.v1 p a4) + IntKind.i64.wrap (r43.v2 n p a4 * j1)) > r43.v3 p a4))) = false by rw [h2]; try rfl) (And.intro (show (bnot (decide (IntKind.i64.wrap (r44.v1 g (r43.v0 p a4) (r43.v1 p a4) + IntKind.i64.wrap (r43.v2 n p a4 * j1)) > r43.v3 p a4))) = false by rw [h2]; try rfl) (And.intro (rfl : false = false) (And.intro (And.intro (rfl : AV.snil = AV.snil) (And.intro (rfl : (0 : Nat) = 0) trivial)) (And.intro (L20ab.e0 (n) (g) o0 (j1) (j2) (k) (p) o1 o8 (a4) o2 o9 o10 o3 o11 o12 (0) ([]) (r43.v0 p a4) (And.intro o13 (And.intro o14 o15)) h3d0 h3d1 h3) (L20a.en n g j1 j2 k p (k_ := k_) (z_ := a4) (.e0 (a4) (h3d0) (h3d1) : L20a.O) (by first | (simp only [L20a.N, h1, h2, h3, cond_true, cond_false]; done) | (try unfold L20a.N; try simp only [h1, cond_true, cond_false]; try simp only [h2, cond_true, cond_false]; try simp only [h3, cond_true, cond_false]; try rfl; done)) PopOk.same)))))))))))))))))⟩
    | false =>
      have h2p := of_decide_eq_false h2
      cases h3 : decide (IntKind.i64.wrap (r44.v0 g (r43.v0 p a4) (r43.v1 p a4) + IntKind.i64.wrap (r43.v2 n p a4 * j2)) ≥ r43.v3 p a4) with
      | true =>
        have h3p := of_decide_eq_true h3
        try have := bd43 (by first | assumption | omega) (by first | assumption | omega) (by first | assumption | omega) (by first | assumption | omega)
        try have := IntWalk.i64_in (a4 + 1) (by omega)
        have o16 : (0 : Int) ≤ IntKind.i64.wrap (a4 + (1 : Int)) := by first | assumption | omega | (simp_all; done)
        have o17 : IntKind.i64.wrap (a4 + (1 : Int)) ≤ (↑k : Int) ∨ IntKind.i64.wrap (a4 + (1 : Int)) ≤ (0 : Int) := by first | assumption | omega | (simp_all; done)
        have o18 : ((↑k : Int) - IntKind.i64.wrap (a4 + (1 : Int))).toNat < ((↑k : Int) - a4).toNat := by first | assumption | omega | (simp_all; done)
        exact ⟨[.b true, .ret (AV.tup [AV.int IntKind.i64 (r43.v0 p a4), AV.int IntKind.i64 (r43.v1 p a4), AV.int IntKind.i64 (r43.v2 n p a4), AV.int IntKind.i64 (r43.v3 p a4)]) (L20a.h0 n g j1 j2 k p a4), .ret (AV.tup [AV.int IntKind.i64 (r44.v0 g (r43.v0 p a4) (r43.v1 p a4)), AV.int IntKind.i64 (r44.v1 g (r43.v0 p a4) (r43.v1 p a4))]) (L20a.h0 n g j1 j2 k p a4), .b true, .b true, .b true, .b true, .b true, .b true, .b true, .b true, .b true, .b true, .b true], kmp (by kernel_rfl) (And.intro h1 (And.intro (r43 (n) (g) o0 (j1) (j2) (k) (p) o1 (a4) o2 o3 (L20a.h0 n g j1 j2 k p a4)) (And.intro (r44 (n) (g) o0 (j1) (j2) (k) (p) o1 (r43.v0 p a4) (r43.v1 p a4) o4 o5 o6 o7 (L20a.h0 n g j1 j2 k p a4)) (And.intro (show (bnot (decide (IntKind.i64.wrap (r44.v1 g (r43.v0 p a4) (r43.v1 p a4) + IntKind.i64.wrap (r43.v2 n p a4 * j1)) > r43.v3 p a4))) = true by rw [h2]; try rfl) (And.intro (show (bnot (decide (IntKind.i64.wrap (r44.v1 g (r43.v0 p a4) (r43.v1 p a4) + IntKind.i64.wrap (r43.v2 n p a4 * j1)) > r43.v3 p a4))) = true by rw [h2]; try rfl) (And.intro (show (bnot (decide (IntKind.i64.wrap (r44.v1 g (r43.v0 p a4) (r43.v1 p a4) + IntKind.i64.wrap (r43.v2 n p a4 * j1)) > r43.v3 p a4))) = true by rw [h2]; try rfl) (And.intro (show (bnot (decide (IntKind.i64.wrap (r44.v1 g (r43.v0 p a4) (r43.v1 p a4) + IntKind.i64.wrap (r43.v2 n p a4 * j1)) > r43.v3 p a4))) = true by rw [h2]; try rfl) (And.intro (show (bnot (decide (IntKind.i64.wrap (r44.v1 g (r43.v0 p a4) (r43.v1 p a4) + IntKind.i64.wrap (r43.v2 n p a4 * j1)) > r43.v3 p a4))) = true by rw [h2]; try rfl) (And.intro (show (bnot (decide (IntKind.i64.wrap (r44.v1 g (r43.v0 p a4) (r43.v1 p a4) + IntKind.i64.wrap (r43.v2 n p a4 * j1)) > r43.v3 p a4))) = true by rw [h2]; try rfl) (And.intro (show (bnot (decide (IntKind.i64.wrap (r44.v1 g (r43.v0 p a4) (r43.v1 p a4) + IntKind.i64.wrap (r43.v2 n p a4 * j1)) > r43.v3 p a4))) = true by rw [h2]; try rfl) (And.intro (show (bnot (decide (IntKind.i64.wrap (r44.v1 g (r43.v0 p a4) (r43.v1 p a4) + IntKind.i64.wrap (r43.v2 n p a4 * j1)) > r43.v3 p a4))) = true by rw [h2]; try rfl) (And.intro (show (bnot (decide (IntKind.i64.wrap (r44.v1 g (r43.v0 p a4) (r43.v1 p a4) + IntKind.i64.wrap (r43.v2 n p a4 * j1)) > r43.v3 p a4))) = true by rw [h2]; try rfl) (And.intro (show (bnot (decide (IntKind.i64.wrap (r44.v1 g (r43.v0 p a4) (r43.v1 p a4) + IntKind.i64.wrap (r43.v2 n p a4 * j1)) > r43.v3 p a4))) = true by rw [h2]; try rfl) (And.intro h3 (L20a.nx n g j1 j2 k p (k_ := k_) (z_ := a4) (IntKind.i64.wrap (a4 + 1)) (And.intro o16 o17) o18 (by first | (simp only [L20a.N, h1, h2, h3, cond_true, cond_false]; done) | (try unfold L20a.N; try simp only [h1, cond_true, cond_false]; try simp only [h2, cond_true, cond_false]; try simp only [h3, cond_true, cond_false]; try rfl; done)) PopOk.same)))))))))))))))⟩
      | false =>
        have h3p := of_decide_eq_false h3
        try have := bd43 (by first | assumption | omega) (by first | assumption | omega) (by first | assumption | omega) (by first | assumption | omega)
        have o8 : ROk n g j1 j2 k p := by first | assumption | (simp_all; done)
        have o9 : a4 ≤ (↑k : Int) ∨ a4 ≤ (0 : Int) := by first | assumption | omega | (simp_all; done)
        have o10 : decide (a4 < (↑k : Int)) = true := by first | assumption | omega | (simp_all; done)
        try have := IntWalk.i64_in (r43.v2 n p a4 * j1) (by omega)
        try have := IntWalk.i64_in (r44.v1 g (r43.v0 p a4) (r43.v1 p a4) + IntKind.i64.wrap (r43.v2 n p a4 * j1)) (by omega)
        have o19 : decide (IntKind.i64.wrap (r44.v1 g (r43.v0 p a4) (r43.v1 p a4) + IntKind.i64.wrap (r43.v2 n p a4 * j1)) > r43.v3 p a4) = false := by first | assumption | omega | (simp_all; done)
        have o20 : ¬IntKind.i64.wrap (r44.v1 g (r43.v0 p a4) (r43.v1 p a4) + IntKind.i64.wrap (r43.v2 n p a4 * j1)) > r43.v3 p a4 := by first | assumption | (simp_all; done)
        try have := IntWalk.i64_in (r43.v2 n p a4 * j2) (by omega)
        try have := IntWalk.i64_in (r44.v0 g (r43.v0 p a4) (r43.v1 p a4) + IntKind.i64.wrap (r43.v2 n p a4 * j2)) (by omega)
        have o21 : decide (IntKind.i64.wrap (r44.v0 g (r43.v0 p a4) (r43.v1 p a4) + IntKind.i64.wrap (r43.v2 n p a4 * j2)) ≥ r43.v3 p a4) = false := by first | assumption | omega | (simp_all; done)
        have o22 : ¬IntKind.i64.wrap (r44.v0 g (r43.v0 p a4) (r43.v1 p a4) + IntKind.i64.wrap (r43.v2 n p a4 * j2)) ≥ r43.v3 p a4 := by first | assumption | (simp_all; done)
        have o13 : r43.v0 p a4 ≤ r43.v0 p a4 := by first | assumption | omega | (simp_all; done)
        have o14 : r43.v0 p a4 ≤ r43.v1 p a4 ∨ r43.v0 p a4 ≤ r43.v0 p a4 := by first | assumption | omega | (simp_all; done)
        have o15 : (0 : Int) ≤ r43.v0 p a4 - r43.v0 p a4 := by first | assumption | omega | (simp_all; done)
        cases h4 : L20abx.run g p a4 0 [] (r43.v0 p a4) with
        | e0 h4d0 h4d1 =>
          exact ⟨[.b true, .ret (AV.tup [AV.int IntKind.i64 (r43.v0 p a4), AV.int IntKind.i64 (r43.v1 p a4), AV.int IntKind.i64 (r43.v2 n p a4), AV.int IntKind.i64 (r43.v3 p a4)]) (L20a.h0 n g j1 j2 k p a4), .ret (AV.tup [AV.int IntKind.i64 (r44.v0 g (r43.v0 p a4) (r43.v1 p a4)), AV.int IntKind.i64 (r44.v1 g (r43.v0 p a4) (r43.v1 p a4))]) (L20a.h0 n g j1 j2 k p a4), .b true, .b true, .b true, .b true, .b true, .b true, .b true, .b true, .b true, .b true, .b false, .virt [] [(none, 12, 1, Col.ints IntKind.i64 [])], .loop (others 87 [1, 4, 6, 11, 12, 13]) (Exit.exit 2) (L20abx.X n g j1 j2 k p a4 (L20abx.O.e0 h4d0 h4d1)) (L20abx.XH n g j1 j2 k p a4 (L20abx.O.e0 h4d0 h4d1))], kmp (by kernel_rfl) (And.intro h1 (And.intro (r43 (n) (g) o0 (j1) (j2) (k) (p) o1 (a4) o2 o3 (L20a.h0 n g j1 j2 k p a4)) (And.intro (r44 (n) (g) o0 (j1) (j2) (k) (p) o1 (r43.v0 p a4) (r43.v1 p a4) o4 o5 o6 o7 (L20a.h0 n g j1 j2 k p a4)) (And.intro (show (bnot (decide (IntKind.i64.wrap (r44.v1 g (r43.v0 p a4) (r43.v1 p a4) + IntKind.i64.wrap (r43.v2 n p a4 * j1)) > r43.v3 p a4))) = true by rw [h2]; try rfl) (And.intro (show (bnot (decide (IntKind.i64.wrap (r44.v1 g (r43.v0 p a4) (r43.v1 p a4) + IntKind.i64.wrap (r43.v2 n p a4 * j1)) > r43.v3 p a4))) = true by rw [h2]; try rfl) (And.intro (show (bnot (decide (IntKind.i64.wrap (r44.v1 g (r43.v0 p a4) (r43.v1 p a4) + IntKind.i64.wrap (r43.v2 n p a4 * j1)) > r43.v3 p a4))) = true by rw [h2]; try rfl) (And.intro (show (bnot (decide (IntKind.i64.wrap (r44.v1 g (r43.v0 p a4) (r43.v1 p a4) + IntKind.i64.wrap (r43.v2 n p a4 * j1)) > r43.v3 p a4))) = true by rw [h2]; try rfl) (And.intro (show (bnot (decide (IntKind.i64.wrap (r44.v1 g (r43.v0 p a4) (r43.v1 p a4) + IntKind.i64.wrap (r43.v2 n p a4 * j1)) > r43.v3 p a4))) = true by rw [h2]; try rfl) (And.intro (show (bnot (decide (IntKind.i64.wrap (r44.v1 g (r43.v0 p a4) (r43.v1 p a4) + IntKind.i64.wrap (r43.v2 n p a4 * j1)) > r43.v3 p a4))) = true by rw [h2]; try rfl) (And.intro (show (bnot (decide (IntKind.i64.wrap (r44.v1 g (r43.v0 p a4) (r43.v1 p a4) + IntKind.i64.wrap (r43.v2 n p a4 * j1)) > r43.v3 p a4))) = true by rw [h2]; try rfl) (And.intro (show (bnot (decide (IntKind.i64.wrap (r44.v1 g (r43.v0 p a4) (r43.v1 p a4) + IntKind.i64.wrap (r43.v2 n p a4 * j1)) > r43.v3 p a4))) = true by rw [h2]; try rfl) (And.intro (show (bnot (decide (IntKind.i64.wrap (r44.v1 g (r43.v0 p a4) (r43.v1 p a4) + IntKind.i64.wrap (r43.v2 n p a4 * j1)) > r43.v3 p a4))) = true by rw [h2]; try rfl) (And.intro (show (bnot (decide (IntKind.i64.wrap (r44.v1 g (r43.v0 p a4) (r43.v1 p a4) + IntKind.i64.wrap (r43.v2 n p a4 * j1)) > r43.v3 p a4))) = true by rw [h2]; try rfl) (And.intro h3 (And.intro (And.intro (rfl : AV.snil = AV.snil) (And.intro (rfl : (0 : Nat) = 0) trivial)) (And.intro (L20abx.e0 (n) (g) o0 (j1) (j2) (k) (p) o1 o8 (a4) o2 o9 o10 o3 o19 o20 o21 o22 (0) ([]) (r43.v0 p a4) (And.intro o13 (And.intro o14 o15)) h4d0 h4d1 h4) (L20a.en n g j1 j2 k p (k_ := k_) (z_ := a4) (.e0 (a4) (h4d0) (h4d1) : L20a.O) (by first | (simp only [L20a.N, h1, h2, h3, h4, cond_true, cond_false]; done) | (try unfold L20a.N; try simp only [h1, cond_true, cond_false]; try simp only [h2, cond_true, cond_false]; try simp only [h3, cond_true, cond_false]; try simp only [h4, cond_true, cond_false]; try rfl; done)) PopOk.same)))))))))))))))))⟩
  | false =>
    have h1p := of_decide_eq_false h1
    exact ⟨[.b false], kmp (by kernel_rfl) (And.intro h1 (L20a.en n g j1 j2 k p (k_ := k_) (z_ := a4) (.e1 : L20a.O) (by first | (simp only [L20a.N, h1, cond_true, cond_false]; done) | (try unfold L20a.N; try simp only [h1, cond_true, cond_false]; try rfl; done)) PopOk.same))⟩
theorem L20a.e0 (n : Nat) (g : Nat → PD) (hn : n ≤ 9223372036854775807) (j1 : Int) (j2 : Int) (k : Nat) (p : Nat → PD) (hk : k ≤ 30) (hr : ROk n g j1 j2 k p) (a4 : Int) (hinv : L20a.inv n g j1 j2 k p a4) (a0 : Int) (a1 : Nat) (a2 : List Int) (hN : L20a.run n g j1 j2 k p a4 = (.e0 a0 a1 a2 : L20a.O)) : LoopTo Try.prog (loopN Try.f20 0) (L20a.T n g j1 j2 k p a4) (L20a.H n g j1 j2 k p a4) (Exit.ret) (L20a.X n g j1 j2 k p (.e0 a0 a1 a2 : L20a.O)) (L20a.XH n g j1 j2 k p (.e0 a0 a1 a2 : L20a.O)) := by
  have h_ := L20a.spec n g hn j1 j2 k p hk hr ((((↑k : Int) - a4).toNat) + 1) a4 hinv (Nat.lt_succ_self _)
  unfold L20a.run at hN
  simp only [hN] at h_
  exact h_
theorem L20a.e1 (n : Nat) (g : Nat → PD) (hn : n ≤ 9223372036854775807) (j1 : Int) (j2 : Int) (k : Nat) (p : Nat → PD) (hk : k ≤ 30) (hr : ROk n g j1 j2 k p) (a4 : Int) (hinv : L20a.inv n g j1 j2 k p a4) (hN : L20a.run n g j1 j2 k p a4 = (.e1 : L20a.O)) : LoopTo Try.prog (loopN Try.f20 0) (L20a.T n g j1 j2 k p a4) (L20a.H n g j1 j2 k p a4) (Exit.exit 0) (L20a.X n g j1 j2 k p (.e1 : L20a.O)) (L20a.XH n g j1 j2 k p (.e1 : L20a.O)) := by
  have h_ := L20a.spec n g hn j1 j2 k p hk hr ((((↑k : Int) - a4).toNat) + 1) a4 hinv (Nat.lt_succ_self _)
  unfold L20a.run at hN
  simp only [hN] at h_
  exact h_

noncomputable def r20.v0 (n : Nat) (g : Nat → PD) (j1 : Int) (j2 : Int) (k : Nat) (p : Nat → PD) : Int := (match L20a.run n g j1 j2 k p 0 with | .e0 h1d0 h1d1 h1d2 => h1d0 | .e1 => -1 )
noncomputable def r20.v1 (n : Nat) (g : Nat → PD) (j1 : Int) (j2 : Int) (k : Nat) (p : Nat → PD) : List Int := (match L20a.run n g j1 j2 k p 0 with | .e0 h1d0 h1d1 h1d2 => h1d2 | .e1 => ([] : List Int) )
theorem r20 (n : Nat) (g : Nat → PD) (hn : n ≤ 9223372036854775807) (j1 : Int) (j2 : Int) (k : Nat) (p : Nat → PD) (hk : k ≤ 30) (hr : ROk n g j1 j2 k p) (h : AHeap) : Ret Try.prog 20 ([rn n g j1 j2 k p]) h (AV.tup [(AV.int IntKind.i64 (r20.v0 n g j1 j2 k p)), (avInts IntKind.i64 (r20.v1 n g j1 j2 k p))]) h := by
  try have := bd43 (by first | assumption | omega) (by first | assumption | omega) (by first | assumption | omega) (by first | assumption | omega)
  have o0 : n ≤ (9223372036854775807 : Nat) := by first | assumption | omega | (simp_all; done)
  have o1 : k ≤ (30 : Nat) := by first | assumption | omega | (simp_all; done)
  have o2 : ROk n g j1 j2 k p := by first | assumption | (simp_all; done)
  have o3 : (0 : Int) ≤ (↑k : Int) ∨ (0 : Int) ≤ (0 : Int) := by first | assumption | omega | (simp_all; done)
  cases h1 : L20a.run n g j1 j2 k p 0 with
  | e0 h1d0 h1d1 h1d2 =>
    try have := bd43 (by first | assumption | omega) (by first | assumption | omega) (by first | assumption | omega) (by first | assumption | omega)
    have o4 : (0 : Nat) + h1d2.length ≤ (Col.ints IntKind.i64 h1d2).len := by first | assumption | omega | (simp only [List.length_append, List.length_cons, List.length_nil, List.length_map]; omega) | rfl | (exact Nat.le_refl _) | (simp [Col.len]; done) | (simp_all; done)
    exact Ret.of_run1 mix [(AV.int IntKind.i64 (r20.v0 n g j1 j2 k p)), (avInts IntKind.i64 (r20.v1 n g j1 j2 k p))] Try.func20 rfl [.loop (others 87 [1, 4]) (Exit.ret) (L20a.X n g j1 j2 k p (L20a.O.e0 h1d0 h1d1 h1d2)) (L20a.XH n g j1 j2 k p (L20a.O.e0 h1d0 h1d1 h1d2))] (by simp) (by simp) (kmp (by kernel_rfl) (And.intro (L20a.e0 (n) (g) o0 (j1) (j2) (k) (p) o1 o2 (0) (And.intro (show (0 : Int) ≤ (0 : Int) by first | decide | exact Int.NonNeg.mk _) o3) h1d0 h1d1 h1d2 h1) (And.intro (show (AV.int IntKind.i64 h1d0) = ((AV.int IntKind.i64 (r20.v0 n g j1 j2 k p))) by first | (simp only [r20.v0, r20.v1, h1, cond_true, cond_false]; done) | (try unfold r20.v0; try unfold r20.v1; try simp only [h1, cond_true, cond_false]; try rfl; done) | rfl) (And.intro (And.intro (rfl : h1d1 = h1d1) (And.intro (show (1 : Nat) = (1 : Nat) by first | decide | exact Int.NonNeg.mk _) (And.intro o4 (show ((avInts IntKind.i64 h1d2)) = ((avInts IntKind.i64 (r20.v1 n g j1 j2 k p))) by first | (simp only [r20.v0, r20.v1, h1, cond_true, cond_false]; done) | (try unfold r20.v0; try unfold r20.v1; try simp only [h1, cond_true, cond_false]; try rfl; done) | rfl)))) trivial)))) h
  | e1 =>
    exact Ret.val (show (AV.tup [AV.int IntKind.i64 (-1), (avInts IntKind.i64 ([] : List Int))]) = (AV.tup [(AV.int IntKind.i64 (r20.v0 n g j1 j2 k p)), (avInts IntKind.i64 (r20.v1 n g j1 j2 k p))]) by first | (simp only [r20.v0, r20.v1, h1, cond_true, cond_false]; done) | (try unfold r20.v0; try unfold r20.v1; try simp only [h1, cond_true, cond_false]; try rfl; done) | rfl) (Ret.of_run1 mix [AV.int IntKind.i64 (-1), (avInts IntKind.i64 ([] : List Int))] Try.func20 rfl [.loop (others 87 [1, 4]) (Exit.exit 0) (L20a.X n g j1 j2 k p L20a.O.e1) (L20a.XH n g j1 j2 k p L20a.O.e1)] (by simp) (by simp) (kmp (by kernel_rfl) (And.intro (L20a.e1 (n) (g) o0 (j1) (j2) (k) (p) o1 o2 (0) (And.intro (show (0 : Int) ≤ (0 : Int) by first | decide | exact Int.NonNeg.mk _) o3) h1) (And.intro (rfl : (AV.int IntKind.i64 (-1)) = (AV.int IntKind.i64 (-1))) (And.intro (rfl : ((avInts IntKind.i64 ([] : List Int))) = ((avInts IntKind.i64 ([] : List Int)))) trivial)))) h)

noncomputable def r46.v0 (g : Nat → PD) (i : Int) : Int := (g i.toNat).lo
noncomputable def r46.v1 (g : Nat → PD) (i : Int) : Int := (g i.toNat).hi
theorem r46 (n : Nat) (g : Nat → PD) (hn : n ≤ 9223372036854775807) (j1 : Int) (j2 : Int) (k : Nat) (p : Nat → PD) (i : Int) (h0 : 0 ≤ i) (h1 : i < (↑n : Int)) : Ret Try.prog 46 ([AV.int IntKind.i64 i, AV.ptr 0 1 4 0 0]) ([AObj.var (rn n g j1 j2 k p)]) (AV.agg ((AV.int IntKind.i64 (r46.v0 g i)) :: ((AV.int IntKind.i64 (r46.v1 g i)) :: []))) ([AObj.var (rn n g j1 j2 k p)]) := by
  have o0 : (0 : Int) ≤ i := by first | assumption | omega | (simp_all; done)
  have o1 : i < (↑n : Int) := by first | assumption | omega | (simp_all; done)
  exact Ret.of_runH mix [(AV.agg ((AV.int IntKind.i64 (r46.v0 g i)) :: ((AV.int IntKind.i64 (r46.v1 g i)) :: [])))] ([AObj.var (rn n g j1 j2 k p)]) Try.func46 rfl [] (by simp) (kmp (by kernel_rfl) (And.intro (And.intro o0 o1) (And.intro (And.intro (show (AV.agg [AV.int IntKind.i64 (g i.toNat).lo, AV.int IntKind.i64 (g i.toNat).hi]) = ((AV.agg ((AV.int IntKind.i64 (r46.v0 g i)) :: ((AV.int IntKind.i64 (r46.v1 g i)) :: [])))) by first | (simp only [r46.v0, r46.v1, cond_true, cond_false]; done) | (try unfold r46.v0; try unfold r46.v1; try rfl; done) | rfl) trivial) (rfl : ([AObj.var (rn n g j1 j2 k p)] : AHeap) = [AObj.var (rn n g j1 j2 k p)]))))

noncomputable def r48.v0 (g : Nat → PD) (i : Int) : Int := (g i.toNat).lo
noncomputable def r48.v1 (g : Nat → PD) (i : Int) : Int := (g i.toNat).hi
theorem r48 (n : Nat) (g : Nat → PD) (hn : n ≤ 9223372036854775807) (j1 : Int) (j2 : Int) (k : Nat) (p : Nat → PD) (i : Int) (h0 : 0 ≤ i) (h1 : i < (↑n : Int)) : Ret Try.prog 48 ([AV.int IntKind.i64 i, AV.ptr 0 1 4 0 0]) ([AObj.var (rn n g j1 j2 k p)]) (AV.agg ((AV.int IntKind.i64 (r48.v0 g i)) :: ((AV.int IntKind.i64 (r48.v1 g i)) :: []))) ([AObj.var (rn n g j1 j2 k p)]) := by
  have o0 : (0 : Int) ≤ i := by first | assumption | omega | (simp_all; done)
  have o1 : i < (↑n : Int) := by first | assumption | omega | (simp_all; done)
  exact Ret.of_runH mix [(AV.agg ((AV.int IntKind.i64 (r48.v0 g i)) :: ((AV.int IntKind.i64 (r48.v1 g i)) :: [])))] ([AObj.var (rn n g j1 j2 k p)]) Try.func48 rfl [] (by simp) (kmp (by kernel_rfl) (And.intro (And.intro o0 o1) (And.intro (And.intro (show (AV.agg [AV.int IntKind.i64 (g i.toNat).lo, AV.int IntKind.i64 (g i.toNat).hi]) = ((AV.agg ((AV.int IntKind.i64 (r48.v0 g i)) :: ((AV.int IntKind.i64 (r48.v1 g i)) :: [])))) by first | (simp only [r48.v0, r48.v1, cond_true, cond_false]; done) | (try unfold r48.v0; try unfold r48.v1; try rfl; done) | rfl) trivial) (rfl : ([AObj.var (rn n g j1 j2 k p)] : AHeap) = [AObj.var (rn n g j1 j2 k p)]))))

theorem r49 (n : Nat) (g : Nat → PD) (hn : n ≤ 9223372036854775807) (j1 : Int) (j2 : Int) (k : Nat) (p : Nat → PD) (i : Int) : Ret Try.prog 49 ([AV.int IntKind.i64 i, AV.ptr 0 1 4 0 0]) ([AObj.var (rn n g j1 j2 k p)]) (AV.agg ((AV.int IntKind.i64 j1) :: ((AV.int IntKind.i64 j2) :: []))) ([AObj.var (rn n g j1 j2 k p)]) := by
  exact Ret.of_runH mix [(AV.agg ((AV.int IntKind.i64 j1) :: ((AV.int IntKind.i64 j2) :: [])))] ([AObj.var (rn n g j1 j2 k p)]) Try.func49 rfl [] (by simp) (kmp (by kernel_rfl) (And.intro (And.intro (show (AV.agg [AV.int IntKind.i64 j1, AV.int IntKind.i64 j2]) = ((AV.agg ((AV.int IntKind.i64 j1) :: ((AV.int IntKind.i64 j2) :: [])))) by first | (simp only [cond_true, cond_false]; done) | (try rfl; done) | rfl) trivial) (rfl : ([AObj.var (rn n g j1 j2 k p)] : AHeap) = [AObj.var (rn n g j1 j2 k p)])))

inductive L45aa.O where
  | e0
  | e1
noncomputable def L45aa.T (n : Nat) (g : Nat → PD) (j1 : Int) (j2 : Int) (k : Nat) (p : Nat → PD) (m : Nat) (f : Nat → Int) (a10 : Int) : List AV := mkT 29 [(1, AV.fn 46 [AV.ptr 0 1 4 0 0]), (8, AV.sl 1 m fun (i : Nat) => AV.int IntKind.i64 (f i)), (9, AV.int IntKind.i64 (↑m : Int)), (10, AV.int IntKind.i64 a10)]
noncomputable def L45aa.H (n : Nat) (g : Nat → PD) (j1 : Int) (j2 : Int) (k : Nat) (p : Nat → PD) (m : Nat) (f : Nat → Int) (a10 : Int) : AHeap := [AObj.var (AV.agg [AV.sl 2 n fun (i : Nat) => AV.agg [AV.int IntKind.i64 (g i).lo, AV.int IntKind.i64 (g i).hi], AV.int IntKind.i64 j1, AV.int IntKind.i64 j2, AV.sl 2 k fun (i : Nat) => AV.agg [AV.int IntKind.i64 (p i).lo, AV.int IntKind.i64 (p i).hi]])]
def L45aa.inv (n : Nat) (g : Nat → PD) (j1 : Int) (j2 : Int) (k : Nat) (p : Nat → PD) (m : Nat) (f : Nat → Int) (a10 : Int) : Prop := 0 ≤ a10 ∧ (a10 ≤ (↑m : Int) ∨ a10 ≤ 0)
noncomputable def L45aa.mu (n : Nat) (g : Nat → PD) (j1 : Int) (j2 : Int) (k : Nat) (p : Nat → PD) (m : Nat) (f : Nat → Int) (a10 : Int) : Nat := ((↑m : Int) - a10).toNat
noncomputable def L45aa.E : L45aa.O → Exit
  | .e0 => Exit.ret
  | .e1 => Exit.exit 0
noncomputable def L45aa.X (n : Nat) (g : Nat → PD) (j1 : Int) (j2 : Int) (k : Nat) (p : Nat → PD) (m : Nat) (f : Nat → Int) : L45aa.O → List AV
  | .e0 => mkT 29 [(4, (AV.bool false))]
  | .e1 => mkT 29 []
noncomputable def L45aa.XH (n : Nat) (g : Nat → PD) (j1 : Int) (j2 : Int) (k : Nat) (p : Nat → PD) (m : Nat) (f : Nat → Int) : L45aa.O → AHeap
  | .e0 => ([AObj.var (AV.agg [AV.sl 2 n fun (i : Nat) => AV.agg [AV.int IntKind.i64 (g i).lo, AV.int IntKind.i64 (g i).hi], AV.int IntKind.i64 j1, AV.int IntKind.i64 j2, AV.sl 2 k fun (i : Nat) => AV.agg [AV.int IntKind.i64 (p i).lo, AV.int IntKind.i64 (p i).hi]])])
  | .e1 => ([AObj.var (AV.agg [AV.sl 2 n fun (i : Nat) => AV.agg [AV.int IntKind.i64 (g i).lo, AV.int IntKind.i64 (g i).hi], AV.int IntKind.i64 j1, AV.int IntKind.i64 j2, AV.sl 2 k fun (i : Nat) => AV.agg [AV.int IntKind.i64 (p i).lo, AV.int IntKind.i64 (p i).hi]])])
noncomputable def L45aa.N (g : Nat → PD) (m : Nat) (f : Nat → Int) : Nat → Int → L45aa.O
  | 0, _ => .e0
  | k_ + 1, a10 => (bif decide (a10 < (↑m : Int)) then (bif decide (f a10.toNat < r46.v0 g a10) then (.e0) else (bif decide (f a10.toNat > r46.v1 g a10) then (.e0) else (L45aa.N g m f k_ (IntKind.i64.wrap (a10 + 1))))) else (.e1))
noncomputable def L45aa.run (g : Nat → PD) (m : Nat) (f : Nat → Int) (a10 : Int) : L45aa.O := L45aa.N g m f ((((↑m : Int) - a10).toNat) + 1) a10
def L45aa.Next (n : Nat) (g : Nat → PD) (j1 : Int) (j2 : Int) (k : Nat) (p : Nat → PD) (m : Nat) (f : Nat → Int) (k_ : Nat) (z_ : Int) (T_ : List AV) (h_ : AHeap) : Prop := LNextP (fun (z_ : Int) => L45aa.T n g j1 j2 k p m f z_) (fun (z_ : Int) => L45aa.H n g j1 j2 k p m f z_) (fun (z_ : Int) => L45aa.inv n g j1 j2 k p m f z_) (fun (z_ : Int) => L45aa.mu n g j1 j2 k p m f z_) (fun (k_ : Nat) (z_ : Int) => L45aa.N g m f k_ z_) k_ z_ T_ h_
def L45aa.End (n : Nat) (g : Nat → PD) (j1 : Int) (j2 : Int) (k : Nat) (p : Nat → PD) (m : Nat) (f : Nat → Int) (k_ : Nat) (z_ : Int) (e_ : Exit) (T_ : List AV) (h_ : AHeap) : Prop := LEndP (fun (z_ : Int) => L45aa.H n g j1 j2 k p m f z_) (fun (k_ : Nat) (z_ : Int) => L45aa.N g m f k_ z_) L45aa.E (L45aa.X n g j1 j2 k p m f) (L45aa.XH n g j1 j2 k p m f) k_ z_ e_ T_ h_
theorem L45aa.nx (n : Nat) (g : Nat → PD) (j1 : Int) (j2 : Int) (k : Nat) (p : Nat → PD) (m : Nat) (f : Nat → Int) {k_ : Nat} {z_ : Int} {h_ : AHeap} (s_ : Int) (h1 : L45aa.inv n g j1 j2 k p m f s_) (h2 : L45aa.mu n g j1 j2 k p m f s_ < L45aa.mu n g j1 j2 k p m f z_) (h3 : L45aa.N g m f k_ s_ = L45aa.N g m f (k_ + 1) z_) (h4 : PopOk (L45aa.H n g j1 j2 k p m f z_) h_ (L45aa.T n g j1 j2 k p m f s_) (L45aa.H n g j1 j2 k p m f s_)) : LNextP (fun (z_ : Int) => L45aa.T n g j1 j2 k p m f z_) (fun (z_ : Int) => L45aa.H n g j1 j2 k p m f z_) (fun (z_ : Int) => L45aa.inv n g j1 j2 k p m f z_) (fun (z_ : Int) => L45aa.mu n g j1 j2 k p m f z_) (fun (k_ : Nat) (z_ : Int) => L45aa.N g m f k_ z_) k_ z_ (L45aa.T n g j1 j2 k p m f s_) h_ := LNextP.mk (Tm := (fun (z_ : Int) => L45aa.T n g j1 j2 k p m f z_)) (Hp := (fun (z_ : Int) => L45aa.H n g j1 j2 k p m f z_)) (inv := (fun (z_ : Int) => L45aa.inv n g j1 j2 k p m f z_)) (mu := (fun (z_ : Int) => L45aa.mu n g j1 j2 k p m f z_)) (l := (fun (k_ : Nat) (z_ : Int) => L45aa.N g m f k_ z_)) s_ h1 h2 h3 h4
theorem L45aa.en (n : Nat) (g : Nat → PD) (j1 : Int) (j2 : Int) (k : Nat) (p : Nat → PD) (m : Nat) (f : Nat → Int) {k_ : Nat} {z_ : Int} {h_ : AHeap} (o_ : L45aa.O) (h3 : L45aa.N g m f (k_ + 1) z_ = o_) (h4 : PopOk (L45aa.H n g j1 j2 k p m f z_) h_ (L45aa.X n g j1 j2 k p m f o_) (L45aa.XH n g j1 j2 k p m f o_)) : LEndP (fun (z_ : Int) => L45aa.H n g j1 j2 k p m f z_) (fun (k_ : Nat) (z_ : Int) => L45aa.N g m f k_ z_) L45aa.E (L45aa.X n g j1 j2 k p m f) (L45aa.XH n g j1 j2 k p m f) k_ z_ (L45aa.E o_) (L45aa.X n g j1 j2 k p m f o_) h_ := LEndP.mk (Hp := (fun (z_ : Int) => L45aa.H n g j1 j2 k p m f z_)) (l := (fun (k_ : Nat) (z_ : Int) => L45aa.N g m f k_ z_)) (oE := L45aa.E) (oT := L45aa.X n g j1 j2 k p m f) (oH := L45aa.XH n g j1 j2 k p m f) o_ h3 h4
noncomputable abbrev L45aa.h0 (n : Nat) (g : Nat → PD) (j1 : Int) (j2 : Int) (k : Nat) (p : Nat → PD) (m : Nat) (f : Nat → Int) (a10 : Int) : AHeap := ([AObj.var (AV.agg [AV.sl 2 n fun (i : Nat) => AV.agg [AV.int IntKind.i64 (g i).lo, AV.int IntKind.i64 (g i).hi], AV.int IntKind.i64 j1, AV.int IntKind.i64 j2, AV.sl 2 k fun (i : Nat) => AV.agg [AV.int IntKind.i64 (p i).lo, AV.int IntKind.i64 (p i).hi]])])
theorem L45aa.spec (n : Nat) (g : Nat → PD) (hn : n ≤ 9223372036854775807) (j1 : Int) (j2 : Int) (k : Nat) (p : Nat → PD) (m : Nat) (f : Nat → Int) (hm : m ≤ n) (k_ : Nat) (z_ : Int) (hi_ : L45aa.inv n g j1 j2 k p m f z_) (hm_ : L45aa.mu n g j1 j2 k p m f z_ < k_) : LoopTo Try.prog (loopN Try.f45 0) (L45aa.T n g j1 j2 k p m f z_) (L45aa.H n g j1 j2 k p m f z_) (L45aa.E (L45aa.N g m f k_ z_)) (L45aa.X n g j1 j2 k p m f (L45aa.N g m f k_ z_)) (L45aa.XH n g j1 j2 k p m f (L45aa.N g m f k_ z_)) := by
  refine LoopTo.fuelP mix (fun (z_ : Int) => L45aa.T n g j1 j2 k p m f z_) (fun (z_ : Int) => L45aa.H n g j1 j2 k p m f z_) (fun (z_ : Int) => L45aa.inv n g j1 j2 k p m f z_) (fun (z_ : Int) => L45aa.mu n g j1 j2 k p m f z_) (fun (k_ : Nat) (z_ : Int) => L45aa.N g m f k_ z_) L45aa.E (L45aa.X n g j1 j2 k p m f) (L45aa.XH n g j1 j2 k p m f) (others 29 [1, 8, 9, 10]) (others 29 [4]) (others 29 []) ?_ k_ z_ hi_ hm_
  clear hm_ hi_ z_ k_
  intro k_ z_ hinv hmu
  revert hinv hmu; revert z_; intro a10 hinv hmu
  have hinv : 0 ≤ a10 ∧ (a10 ≤ (↑m : Int) ∨ a10 ≤ 0) := hinv
  have hmu : (((↑m : Int) - a10).toNat) < k_ + 1 := hmu
  cases h1 : decide (a10 < (↑m : Int)) with
  | true =>
    have h1p := of_decide_eq_true h1
    have o0 : (0 : Int) ≤ a10 := by first | assumption | omega | (simp_all; done)
    have o1 : a10 < (↑m : Int) := by first | assumption | omega | (simp_all; done)
    have o2 : n ≤ (9223372036854775807 : Nat) := by first | assumption | omega | (simp_all; done)
    have o3 : a10 < (↑n : Int) := by first | assumption | omega | (simp_all; done)
    cases h2 : decide (f a10.toNat < r46.v0 g a10) with
    | true =>
      have h2p := of_decide_eq_true h2
      exact ⟨[.b true, .ret (AV.agg [AV.int IntKind.i64 (r46.v0 g a10), AV.int IntKind.i64 (r46.v1 g a10)]) (L45aa.h0 n g j1 j2 k p m f a10), .b true, .b true, .b true, .b true, .b true, .b true], kmp (by kernel_rfl) (And.intro h1 (And.intro (And.intro o0 o1) (And.intro (r46 (n) (g) o2 (j1) (j2) (k) (p) (a10) o0 o3) (And.intro h2 (And.intro h2 (And.intro h2 (And.intro h2 (And.intro h2 (And.intro (rfl : true = true) (L45aa.en n g j1 j2 k p m f (k_ := k_) (z_ := a10) (h_ := [AObj.var (AV.agg [AV.sl 2 n fun (i : Nat) => AV.agg [AV.int IntKind.i64 (g i).lo, AV.int IntKind.i64 (g i).hi], AV.int IntKind.i64 j1, AV.int IntKind.i64 j2, AV.sl 2 k fun (i : Nat) => AV.agg [AV.int IntKind.i64 (p i).lo, AV.int IntKind.i64 (p i).hi]]), AObj.var (AV.agg [AV.int IntKind.i64 (r46.v0 g a10), AV.int IntKind.i64 (r46.v1 g a10)])]) (.e0 : L45aa.O) (by first | (simp only [L45aa.N, h1, h2, cond_true, cond_false]; done) | (try unfold L45aa.N; try simp only [h1, cond_true, cond_false]; try simp only [h2, cond_true, cond_false]; try rfl; done)) (PopOk.pop rfl (by simp [L45aa.T, L45aa.X, L45aa.H, L45aa.XH]))))))))))))⟩
    | false =>
      have h2p := of_decide_eq_false h2
      cases h3 : decide (f a10.toNat > r46.v1 g a10) with
      | true =>
        have h3p := of_decide_eq_true h3
        exact ⟨[.b true, .ret (AV.agg [AV.int IntKind.i64 (r46.v0 g a10), AV.int IntKind.i64 (r46.v1 g a10)]) (L45aa.h0 n g j1 j2 k p m f a10), .b false, .b false, .b false, .b false, .b false, .b true], kmp (by kernel_rfl) (And.intro h1 (And.intro (And.intro o0 o1) (And.intro (r46 (n) (g) o2 (j1) (j2) (k) (p) (a10) o0 o3) (And.intro h2 (And.intro h2 (And.intro h2 (And.intro h2 (And.intro h2 (And.intro h3 (L45aa.en n g j1 j2 k p m f (k_ := k_) (z_ := a10) (h_ := [AObj.var (AV.agg [AV.sl 2 n fun (i : Nat) => AV.agg [AV.int IntKind.i64 (g i).lo, AV.int IntKind.i64 (g i).hi], AV.int IntKind.i64 j1, AV.int IntKind.i64 j2, AV.sl 2 k fun (i : Nat) => AV.agg [AV.int IntKind.i64 (p i).lo, AV.int IntKind.i64 (p i).hi]]), AObj.var (AV.agg [AV.int IntKind.i64 (r46.v0 g a10), AV.int IntKind.i64 (r46.v1 g a10)])]) (.e0 : L45aa.O) (by first | (simp only [L45aa.N, h1, h2, h3, cond_true, cond_false]; done) | (try unfold L45aa.N; try simp only [h1, cond_true, cond_false]; try simp only [h2, cond_true, cond_false]; try simp only [h3, cond_true, cond_false]; try rfl; done)) (PopOk.pop rfl (by simp [L45aa.T, L45aa.X, L45aa.H, L45aa.XH]))))))))))))⟩
      | false =>
        have h3p := of_decide_eq_false h3
        try have := IntWalk.i64_in (a10 + 1) (by omega)
        have o4 : (0 : Int) ≤ IntKind.i64.wrap (a10 + (1 : Int)) := by first | assumption | omega | (simp_all; done)
        have o5 : IntKind.i64.wrap (a10 + (1 : Int)) ≤ (↑m : Int) ∨ IntKind.i64.wrap (a10 + (1 : Int)) ≤ (0 : Int) := by first | assumption | omega | (simp_all; done)
        have o6 : ((↑m : Int) - IntKind.i64.wrap (a10 + (1 : Int))).toNat < ((↑m : Int) - a10).toNat := by first | assumption | omega | (simp_all; done)
        exact ⟨[.b true, .ret (AV.agg [AV.int IntKind.i64 (r46.v0 g a10), AV.int IntKind.i64 (r46.v1 g a10)]) (L45aa.h0 n g j1 j2 k p m f a10), .b false, .b false, .b false, .b false, .b false, .b false], kmp (by kernel_rfl) (And.intro h1 (And.intro (And.intro o0 o1) (And.intro (r46 (n) (g) o2 (j1) (j2) (k) (p) (a10) o0 o3) (And.intro h2 (And.intro h2 (And.intro h2 (And.intro h2 (And.intro h2 (And.intro h3 (L45aa.nx n g j1 j2 k p m f (k_ := k_) (z_ := a10) (h_ := [AObj.var (AV.agg [AV.sl 2 n fun (i : Nat) => AV.agg [AV.int IntKind.i64 (g i).lo, AV.int IntKind.i64 (g i).hi], AV.int IntKind.i64 j1, AV.int IntKind.i64 j2, AV.sl 2 k fun (i : Nat) => AV.agg [AV.int IntKind.i64 (p i).lo, AV.int IntKind.i64 (p i).hi]]), AObj.var (AV.agg [AV.int IntKind.i64 (r46.v0 g a10), AV.int IntKind.i64 (r46.v1 g a10)])]) (IntKind.i64.wrap (a10 + 1)) (And.intro o4 o5) o6 (by first | (simp only [L45aa.N, h1, h2, h3, cond_true, cond_false]; done) | (try unfold L45aa.N; try simp only [h1, cond_true, cond_false]; try simp only [h2, cond_true, cond_false]; try simp only [h3, cond_true, cond_false]; try rfl; done)) (PopOk.pop rfl (by simp [L45aa.T, L45aa.X, L45aa.H, L45aa.XH]))))))))))))⟩
  | false =>
    have h1p := of_decide_eq_false h1
    exact ⟨[.b false], kmp (by kernel_rfl) (And.intro h1 (L45aa.en n g j1 j2 k p m f (k_ := k_) (z_ := a10) (.e1 : L45aa.O) (by first | (simp only [L45aa.N, h1, cond_true, cond_false]; done) | (try unfold L45aa.N; try simp only [h1, cond_true, cond_false]; try rfl; done)) PopOk.same))⟩
theorem L45aa.e0 (n : Nat) (g : Nat → PD) (hn : n ≤ 9223372036854775807) (j1 : Int) (j2 : Int) (k : Nat) (p : Nat → PD) (m : Nat) (f : Nat → Int) (hm : m ≤ n) (a10 : Int) (hinv : L45aa.inv n g j1 j2 k p m f a10) (hN : L45aa.run g m f a10 = (.e0 : L45aa.O)) : LoopTo Try.prog (loopN Try.f45 0) (L45aa.T n g j1 j2 k p m f a10) (L45aa.H n g j1 j2 k p m f a10) (Exit.ret) (L45aa.X n g j1 j2 k p m f (.e0 : L45aa.O)) (L45aa.XH n g j1 j2 k p m f (.e0 : L45aa.O)) := by
  have h_ := L45aa.spec n g hn j1 j2 k p m f hm ((((↑m : Int) - a10).toNat) + 1) a10 hinv (Nat.lt_succ_self _)
  unfold L45aa.run at hN
  simp only [hN] at h_
  exact h_
theorem L45aa.e1 (n : Nat) (g : Nat → PD) (hn : n ≤ 9223372036854775807) (j1 : Int) (j2 : Int) (k : Nat) (p : Nat → PD) (m : Nat) (f : Nat → Int) (hm : m ≤ n) (a10 : Int) (hinv : L45aa.inv n g j1 j2 k p m f a10) (hN : L45aa.run g m f a10 = (.e1 : L45aa.O)) : LoopTo Try.prog (loopN Try.f45 0) (L45aa.T n g j1 j2 k p m f a10) (L45aa.H n g j1 j2 k p m f a10) (Exit.exit 0) (L45aa.X n g j1 j2 k p m f (.e1 : L45aa.O)) (L45aa.XH n g j1 j2 k p m f (.e1 : L45aa.O)) := by
  have h_ := L45aa.spec n g hn j1 j2 k p m f hm ((((↑m : Int) - a10).toNat) + 1) a10 hinv (Nat.lt_succ_self _)
  unfold L45aa.run at hN
  simp only [hN] at h_
  exact h_

noncomputable def r45a.v (g : Nat → PD) (m : Nat) (f : Nat → Int) : Bool := (match L45aa.run g m f 0 with | .e0 => false | .e1 => true )
theorem r45a (n : Nat) (g : Nat → PD) (hn : n ≤ 9223372036854775807) (j1 : Int) (j2 : Int) (k : Nat) (p : Nat → PD) (m : Nat) (f : Nat → Int) (hm : m ≤ n) : Ret Try.prog 45 ([ivs m f, AV.fn 46 [AV.ptr 0 1 4 0 0]]) ([AObj.var (rn n g j1 j2 k p)]) (AV.bool (r45a.v g m f)) ([AObj.var (rn n g j1 j2 k p)]) := by
  have o0 : n ≤ (9223372036854775807 : Nat) := by first | assumption | omega | (simp_all; done)
  have o1 : m ≤ n := by first | assumption | omega | (simp_all; done)
  have o2 : (0 : Int) ≤ (↑m : Int) ∨ (0 : Int) ≤ (0 : Int) := by first | assumption | omega | (simp_all; done)
  cases h1 : L45aa.run g m f 0 with
  | e0 =>
    exact Ret.of_runH mix [(AV.bool (r45a.v g m f))] ([AObj.var (rn n g j1 j2 k p)]) Try.func45 rfl [.loop (others 29 [1, 8, 9, 10]) (Exit.ret) (L45aa.X n g j1 j2 k p m f L45aa.O.e0) (L45aa.XH n g j1 j2 k p m f L45aa.O.e0)] (by simp) (kmp (by kernel_rfl) (And.intro (L45aa.e0 (n) (g) o0 (j1) (j2) (k) (p) (m) (f) o1 (0) (And.intro (show (0 : Int) ≤ (0 : Int) by first | decide | exact Int.NonNeg.mk _) o2) h1) (And.intro (And.intro (show (AV.bool false) = ((AV.bool (r45a.v g m f))) by first | (simp only [r45a.v, h1, cond_true, cond_false]; done) | (try unfold r45a.v; try simp only [h1, cond_true, cond_false]; try rfl; done) | rfl) trivial) (rfl : ([AObj.var (rn n g j1 j2 k p)] : AHeap) = [AObj.var (rn n g j1 j2 k p)]))))
  | e1 =>
    exact Ret.of_runH mix [(AV.bool (r45a.v g m f))] ([AObj.var (rn n g j1 j2 k p)]) Try.func45 rfl [.loop (others 29 [1, 8, 9, 10]) (Exit.exit 0) (L45aa.X n g j1 j2 k p m f L45aa.O.e1) (L45aa.XH n g j1 j2 k p m f L45aa.O.e1)] (by simp) (kmp (by kernel_rfl) (And.intro (L45aa.e1 (n) (g) o0 (j1) (j2) (k) (p) (m) (f) o1 (0) (And.intro (show (0 : Int) ≤ (0 : Int) by first | decide | exact Int.NonNeg.mk _) o2) h1) (And.intro (And.intro (show (AV.bool true) = ((AV.bool (r45a.v g m f))) by first | (simp only [r45a.v, h1, cond_true, cond_false]; done) | (try unfold r45a.v; try simp only [h1, cond_true, cond_false]; try rfl; done) | rfl) trivial) (rfl : ([AObj.var (rn n g j1 j2 k p)] : AHeap) = [AObj.var (rn n g j1 j2 k p)]))))

inductive L45ba.O where
  | e0
  | e1
noncomputable def L45ba.T (n : Nat) (g : Nat → PD) (j1 : Int) (j2 : Int) (k : Nat) (p : Nat → PD) (m : Nat) (f : Nat → Int) (a10 : Int) : List AV := mkT 29 [(1, AV.fn 48 [AV.ptr 0 1 4 0 0]), (8, AV.sl 1 m fun (i : Nat) => AV.int IntKind.i64 (f i)), (9, AV.int IntKind.i64 (↑m : Int)), (10, AV.int IntKind.i64 a10)]
noncomputable def L45ba.H (n : Nat) (g : Nat → PD) (j1 : Int) (j2 : Int) (k : Nat) (p : Nat → PD) (m : Nat) (f : Nat → Int) (a10 : Int) : AHeap := [AObj.var (AV.agg [AV.sl 2 n fun (i : Nat) => AV.agg [AV.int IntKind.i64 (g i).lo, AV.int IntKind.i64 (g i).hi], AV.int IntKind.i64 j1, AV.int IntKind.i64 j2, AV.sl 2 k fun (i : Nat) => AV.agg [AV.int IntKind.i64 (p i).lo, AV.int IntKind.i64 (p i).hi]])]
def L45ba.inv (n : Nat) (g : Nat → PD) (j1 : Int) (j2 : Int) (k : Nat) (p : Nat → PD) (m : Nat) (f : Nat → Int) (a10 : Int) : Prop := 0 ≤ a10 ∧ (a10 ≤ (↑m : Int) ∨ a10 ≤ 0)
noncomputable def L45ba.mu (n : Nat) (g : Nat → PD) (j1 : Int) (j2 : Int) (k : Nat) (p : Nat → PD) (m : Nat) (f : Nat → Int) (a10 : Int) : Nat := ((↑m : Int) - a10).toNat
noncomputable def L45ba.E : L45ba.O → Exit
  | .e0 => Exit.ret
  | .e1 => Exit.exit 0
noncomputable def L45ba.X (n : Nat) (g : Nat → PD) (j1 : Int) (j2 : Int) (k : Nat) (p : Nat → PD) (m : Nat) (f : Nat → Int) : L45ba.O → List AV
  | .e0 => mkT 29 [(4, (AV.bool false))]
  | .e1 => mkT 29 []
noncomputable def L45ba.XH (n : Nat) (g : Nat → PD) (j1 : Int) (j2 : Int) (k : Nat) (p : Nat → PD) (m : Nat) (f : Nat → Int) : L45ba.O → AHeap
  | .e0 => ([AObj.var (AV.agg [AV.sl 2 n fun (i : Nat) => AV.agg [AV.int IntKind.i64 (g i).lo, AV.int IntKind.i64 (g i).hi], AV.int IntKind.i64 j1, AV.int IntKind.i64 j2, AV.sl 2 k fun (i : Nat) => AV.agg [AV.int IntKind.i64 (p i).lo, AV.int IntKind.i64 (p i).hi]])])
  | .e1 => ([AObj.var (AV.agg [AV.sl 2 n fun (i : Nat) => AV.agg [AV.int IntKind.i64 (g i).lo, AV.int IntKind.i64 (g i).hi], AV.int IntKind.i64 j1, AV.int IntKind.i64 j2, AV.sl 2 k fun (i : Nat) => AV.agg [AV.int IntKind.i64 (p i).lo, AV.int IntKind.i64 (p i).hi]])])
noncomputable def L45ba.N (g : Nat → PD) (m : Nat) (f : Nat → Int) : Nat → Int → L45ba.O
  | 0, _ => .e0
  | k_ + 1, a10 => (bif decide (a10 < (↑m : Int)) then (bif decide (f a10.toNat < r48.v0 g a10) then (.e0) else (bif decide (f a10.toNat > r48.v1 g a10) then (.e0) else (L45ba.N g m f k_ (IntKind.i64.wrap (a10 + 1))))) else (.e1))
noncomputable def L45ba.run (g : Nat → PD) (m : Nat) (f : Nat → Int) (a10 : Int) : L45ba.O := L45ba.N g m f ((((↑m : Int) - a10).toNat) + 1) a10
def L45ba.Next (n : Nat) (g : Nat → PD) (j1 : Int) (j2 : Int) (k : Nat) (p : Nat → PD) (m : Nat) (f : Nat → Int) (k_ : Nat) (z_ : Int) (T_ : List AV) (h_ : AHeap) : Prop := LNextP (fun (z_ : Int) => L45ba.T n g j1 j2 k p m f z_) (fun (z_ : Int) => L45ba.H n g j1 j2 k p m f z_) (fun (z_ : Int) => L45ba.inv n g j1 j2 k p m f z_) (fun (z_ : Int) => L45ba.mu n g j1 j2 k p m f z_) (fun (k_ : Nat) (z_ : Int) => L45ba.N g m f k_ z_) k_ z_ T_ h_
def L45ba.End (n : Nat) (g : Nat → PD) (j1 : Int) (j2 : Int) (k : Nat) (p : Nat → PD) (m : Nat) (f : Nat → Int) (k_ : Nat) (z_ : Int) (e_ : Exit) (T_ : List AV) (h_ : AHeap) : Prop := LEndP (fun (z_ : Int) => L45ba.H n g j1 j2 k p m f z_) (fun (k_ : Nat) (z_ : Int) => L45ba.N g m f k_ z_) L45ba.E (L45ba.X n g j1 j2 k p m f) (L45ba.XH n g j1 j2 k p m f) k_ z_ e_ T_ h_
theorem L45ba.nx (n : Nat) (g : Nat → PD) (j1 : Int) (j2 : Int) (k : Nat) (p : Nat → PD) (m : Nat) (f : Nat → Int) {k_ : Nat} {z_ : Int} {h_ : AHeap} (s_ : Int) (h1 : L45ba.inv n g j1 j2 k p m f s_) (h2 : L45ba.mu n g j1 j2 k p m f s_ < L45ba.mu n g j1 j2 k p m f z_) (h3 : L45ba.N g m f k_ s_ = L45ba.N g m f (k_ + 1) z_) (h4 : PopOk (L45ba.H n g j1 j2 k p m f z_) h_ (L45ba.T n g j1 j2 k p m f s_) (L45ba.H n g j1 j2 k p m f s_)) : LNextP (fun (z_ : Int) => L45ba.T n g j1 j2 k p m f z_) (fun (z_ : Int) => L45ba.H n g j1 j2 k p m f z_) (fun (z_ : Int) => L45ba.inv n g j1 j2 k p m f z_) (fun (z_ : Int) => L45ba.mu n g j1 j2 k p m f z_) (fun (k_ : Nat) (z_ : Int) => L45ba.N g m f k_ z_) k_ z_ (L45ba.T n g j1 j2 k p m f s_) h_ := LNextP.mk (Tm := (fun (z_ : Int) => L45ba.T n g j1 j2 k p m f z_)) (Hp := (fun (z_ : Int) => L45ba.H n g j1 j2 k p m f z_)) (inv := (fun (z_ : Int) => L45ba.inv n g j1 j2 k p m f z_)) (mu := (fun (z_ : Int) => L45ba.mu n g j1 j2 k p m f z_)) (l := (fun (k_ : Nat) (z_ : Int) => L45ba.N g m f k_ z_)) s_ h1 h2 h3 h4
theorem L45ba.en (n : Nat) (g : Nat → PD) (j1 : Int) (j2 : Int) (k : Nat) (p : Nat → PD) (m : Nat) (f : Nat → Int) {k_ : Nat} {z_ : Int} {h_ : AHeap} (o_ : L45ba.O) (h3 : L45ba.N g m f (k_ + 1) z_ = o_) (h4 : PopOk (L45ba.H n g j1 j2 k p m f z_) h_ (L45ba.X n g j1 j2 k p m f o_) (L45ba.XH n g j1 j2 k p m f o_)) : LEndP (fun (z_ : Int) => L45ba.H n g j1 j2 k p m f z_) (fun (k_ : Nat) (z_ : Int) => L45ba.N g m f k_ z_) L45ba.E (L45ba.X n g j1 j2 k p m f) (L45ba.XH n g j1 j2 k p m f) k_ z_ (L45ba.E o_) (L45ba.X n g j1 j2 k p m f o_) h_ := LEndP.mk (Hp := (fun (z_ : Int) => L45ba.H n g j1 j2 k p m f z_)) (l := (fun (k_ : Nat) (z_ : Int) => L45ba.N g m f k_ z_)) (oE := L45ba.E) (oT := L45ba.X n g j1 j2 k p m f) (oH := L45ba.XH n g j1 j2 k p m f) o_ h3 h4
noncomputable abbrev L45ba.h0 (n : Nat) (g : Nat → PD) (j1 : Int) (j2 : Int) (k : Nat) (p : Nat → PD) (m : Nat) (f : Nat → Int) (a10 : Int) : AHeap := ([AObj.var (AV.agg [AV.sl 2 n fun (i : Nat) => AV.agg [AV.int IntKind.i64 (g i).lo, AV.int IntKind.i64 (g i).hi], AV.int IntKind.i64 j1, AV.int IntKind.i64 j2, AV.sl 2 k fun (i : Nat) => AV.agg [AV.int IntKind.i64 (p i).lo, AV.int IntKind.i64 (p i).hi]])])
theorem L45ba.spec (n : Nat) (g : Nat → PD) (hn : n ≤ 9223372036854775807) (j1 : Int) (j2 : Int) (k : Nat) (p : Nat → PD) (m : Nat) (f : Nat → Int) (hm : m ≤ n) (k_ : Nat) (z_ : Int) (hi_ : L45ba.inv n g j1 j2 k p m f z_) (hm_ : L45ba.mu n g j1 j2 k p m f z_ < k_) : LoopTo Try.prog (loopN Try.f45 0) (L45ba.T n g j1 j2 k p m f z_) (L45ba.H n g j1 j2 k p m f z_) (L45ba.E (L45ba.N g m f k_ z_)) (L45ba.X n g j1 j2 k p m f (L45ba.N g m f k_ z_)) (L45ba.XH n g j1 j2 k p m f (L45ba.N g m f k_ z_)) := by
  refine LoopTo.fuelP mix (fun (z_ : Int) => L45ba.T n g j1 j2 k p m f z_) (fun (z_ : Int) => L45ba.H n g j1 j2 k p m f z_) (fun (z_ : Int) => L45ba.inv n g j1 j2 k p m f z_) (fun (z_ : Int) => L45ba.mu n g j1 j2 k p m f z_) (fun (k_ : Nat) (z_ : Int) => L45ba.N g m f k_ z_) L45ba.E (L45ba.X n g j1 j2 k p m f) (L45ba.XH n g j1 j2 k p m f) (others 29 [1, 8, 9, 10]) (others 29 [4]) (others 29 []) ?_ k_ z_ hi_ hm_
  clear hm_ hi_ z_ k_
  intro k_ z_ hinv hmu
  revert hinv hmu; revert z_; intro a10 hinv hmu
  have hinv : 0 ≤ a10 ∧ (a10 ≤ (↑m : Int) ∨ a10 ≤ 0) := hinv
  have hmu : (((↑m : Int) - a10).toNat) < k_ + 1 := hmu
  cases h1 : decide (a10 < (↑m : Int)) with
  | true =>
    have h1p := of_decide_eq_true h1
    have o0 : (0 : Int) ≤ a10 := by first | assumption | omega | (simp_all; done)
    have o1 : a10 < (↑m : Int) := by first | assumption | omega | (simp_all; done)
    have o2 : n ≤ (9223372036854775807 : Nat) := by first | assumption | omega | (simp_all; done)
    have o3 : a10 < (↑n : Int) := by first | assumption | omega | (simp_all; done)
    cases h2 : decide (f a10.toNat < r48.v0 g a10) with
    | true =>
      have h2p := of_decide_eq_true h2
      exact ⟨[.b true, .ret (AV.agg [AV.int IntKind.i64 (r48.v0 g a10), AV.int IntKind.i64 (r48.v1 g a10)]) (L45ba.h0 n g j1 j2 k p m f a10), .b true, .b true, .b true, .b true, .b true, .b true], kmp (by kernel_rfl) (And.intro h1 (And.intro (And.intro o0 o1) (And.intro (r48 (n) (g) o2 (j1) (j2) (k) (p) (a10) o0 o3) (And.intro h2 (And.intro h2 (And.intro h2 (And.intro h2 (And.intro h2 (And.intro (rfl : true = true) (L45ba.en n g j1 j2 k p m f (k_ := k_) (z_ := a10) (h_ := [AObj.var (AV.agg [AV.sl 2 n fun (i : Nat) => AV.agg [AV.int IntKind.i64 (g i).lo, AV.int IntKind.i64 (g i).hi], AV.int IntKind.i64 j1, AV.int IntKind.i64 j2, AV.sl 2 k fun (i : Nat) => AV.agg [AV.int IntKind.i64 (p i).lo, AV.int IntKind.i64 (p i).hi]]), AObj.var (AV.agg [AV.int IntKind.i64 (r48.v0 g a10), AV.int IntKind.i64 (r48.v1 g a10)])]) (.e0 : L45ba.O) (by first | (simp only [L45ba.N, h1, h2, cond_true, cond_false]; done) | (try unfold L45ba.N; try simp only [h1, cond_true, cond_false]; try simp only [h2, cond_true, cond_false]; try rfl; done)) (PopOk.pop rfl (by simp [L45ba.T, L45ba.X, L45ba.H, L45ba.XH]))))))))))))⟩
    | false =>
      have h2p := of_decide_eq_false h2
      cases h3 : decide (f a10.toNat > r48.v1 g a10) with
      | true =>
        have h3p := of_decide_eq_true h3
        exact ⟨[.b true, .ret (AV.agg [AV.int IntKind.i64 (r48.v0 g a10), AV.int IntKind.i64 (r48.v1 g a10)]) (L45ba.h0 n g j1 j2 k p m f a10), .b false, .b false, .b false, .b false, .b false, .b true], kmp (by kernel_rfl) (And.intro h1 (And.intro (And.intro o0 o1) (And.intro (r48 (n) (g) o2 (j1) (j2) (k) (p) (a10) o0 o3) (And.intro h2 (And.intro h2 (And.intro h2 (And.intro h2 (And.intro h2 (And.intro h3 (L45ba.en n g j1 j2 k p m f (k_ := k_) (z_ := a10) (h_ := [AObj.var (AV.agg [AV.sl 2 n fun (i : Nat) => AV.agg [AV.int IntKind.i64 (g i).lo, AV.int IntKind.i64 (g i).hi], AV.int IntKind.i64 j1, AV.int IntKind.i64 j2, AV.sl 2 k fun (i : Nat) => AV.agg [AV.int IntKind.i64 (p i).lo, AV.int IntKind.i64 (p i).hi]]), AObj.var (AV.agg [AV.int IntKind.i64 (r48.v0 g a10), AV.int IntKind.i64 (r48.v1 g a10)])]) (.e0 : L45ba.O) (by first | (simp only [L45ba.N, h1, h2, h3, cond_true, cond_false]; done) | (try unfold L45ba.N; try simp only [h1, cond_true, cond_false]; try simp only [h2, cond_true, cond_false]; try simp only [h3, cond_true, cond_false]; try rfl; done)) (PopOk.pop rfl (by simp [L45ba.T, L45ba.X, L45ba.H, L45ba.XH]))))))))))))⟩
      | false =>
        have h3p := of_decide_eq_false h3
        try have := IntWalk.i64_in (a10 + 1) (by omega)
        have o4 : (0 : Int) ≤ IntKind.i64.wrap (a10 + (1 : Int)) := by first | assumption | omega | (simp_all; done)
        have o5 : IntKind.i64.wrap (a10 + (1 : Int)) ≤ (↑m : Int) ∨ IntKind.i64.wrap (a10 + (1 : Int)) ≤ (0 : Int) := by first | assumption | omega | (simp_all; done)
        have o6 : ((↑m : Int) - IntKind.i64.wrap (a10 + (1 : Int))).toNat < ((↑m : Int) - a10).toNat := by first | assumption | omega | (simp_all; done)
        exact ⟨[.b true, .ret (AV.agg [AV.int IntKind.i64 (r48.v0 g a10), AV.int IntKind.i64 (r48.v1 g a10)]) (L45ba.h0 n g j1 j2 k p m f a10), .b false, .b false, .b false, .b false, .b false, .b false], kmp (by kernel_rfl) (And.intro h1 (And.intro (And.intro o0 o1) (And.intro (r48 (n) (g) o2 (j1) (j2) (k) (p) (a10) o0 o3) (And.intro h2 (And.intro h2 (And.intro h2 (And.intro h2 (And.intro h2 (And.intro h3 (L45ba.nx n g j1 j2 k p m f (k_ := k_) (z_ := a10) (h_ := [AObj.var (AV.agg [AV.sl 2 n fun (i : Nat) => AV.agg [AV.int IntKind.i64 (g i).lo, AV.int IntKind.i64 (g i).hi], AV.int IntKind.i64 j1, AV.int IntKind.i64 j2, AV.sl 2 k fun (i : Nat) => AV.agg [AV.int IntKind.i64 (p i).lo, AV.int IntKind.i64 (p i).hi]]), AObj.var (AV.agg [AV.int IntKind.i64 (r48.v0 g a10), AV.int IntKind.i64 (r48.v1 g a10)])]) (IntKind.i64.wrap (a10 + 1)) (And.intro o4 o5) o6 (by first | (simp only [L45ba.N, h1, h2, h3, cond_true, cond_false]; done) | (try unfold L45ba.N; try simp only [h1, cond_true, cond_false]; try simp only [h2, cond_true, cond_false]; try simp only [h3, cond_true, cond_false]; try rfl; done)) (PopOk.pop rfl (by simp [L45ba.T, L45ba.X, L45ba.H, L45ba.XH]))))))))))))⟩
  | false =>
    have h1p := of_decide_eq_false h1
    exact ⟨[.b false], kmp (by kernel_rfl) (And.intro h1 (L45ba.en n g j1 j2 k p m f (k_ := k_) (z_ := a10) (.e1 : L45ba.O) (by first | (simp only [L45ba.N, h1, cond_true, cond_false]; done) | (try unfold L45ba.N; try simp only [h1, cond_true, cond_false]; try rfl; done)) PopOk.same))⟩
theorem L45ba.e0 (n : Nat) (g : Nat → PD) (hn : n ≤ 9223372036854775807) (j1 : Int) (j2 : Int) (k : Nat) (p : Nat → PD) (m : Nat) (f : Nat → Int) (hm : m ≤ n) (a10 : Int) (hinv : L45ba.inv n g j1 j2 k p m f a10) (hN : L45ba.run g m f a10 = (.e0 : L45ba.O)) : LoopTo Try.prog (loopN Try.f45 0) (L45ba.T n g j1 j2 k p m f a10) (L45ba.H n g j1 j2 k p m f a10) (Exit.ret) (L45ba.X n g j1 j2 k p m f (.e0 : L45ba.O)) (L45ba.XH n g j1 j2 k p m f (.e0 : L45ba.O)) := by
  have h_ := L45ba.spec n g hn j1 j2 k p m f hm ((((↑m : Int) - a10).toNat) + 1) a10 hinv (Nat.lt_succ_self _)
  unfold L45ba.run at hN
  simp only [hN] at h_
  exact h_
theorem L45ba.e1 (n : Nat) (g : Nat → PD) (hn : n ≤ 9223372036854775807) (j1 : Int) (j2 : Int) (k : Nat) (p : Nat → PD) (m : Nat) (f : Nat → Int) (hm : m ≤ n) (a10 : Int) (hinv : L45ba.inv n g j1 j2 k p m f a10) (hN : L45ba.run g m f a10 = (.e1 : L45ba.O)) : LoopTo Try.prog (loopN Try.f45 0) (L45ba.T n g j1 j2 k p m f a10) (L45ba.H n g j1 j2 k p m f a10) (Exit.exit 0) (L45ba.X n g j1 j2 k p m f (.e1 : L45ba.O)) (L45ba.XH n g j1 j2 k p m f (.e1 : L45ba.O)) := by
  have h_ := L45ba.spec n g hn j1 j2 k p m f hm ((((↑m : Int) - a10).toNat) + 1) a10 hinv (Nat.lt_succ_self _)
  unfold L45ba.run at hN
  simp only [hN] at h_
  exact h_

noncomputable def r45b.v (g : Nat → PD) (m : Nat) (f : Nat → Int) : Bool := (match L45ba.run g m f 0 with | .e0 => false | .e1 => true )
theorem r45b (n : Nat) (g : Nat → PD) (hn : n ≤ 9223372036854775807) (j1 : Int) (j2 : Int) (k : Nat) (p : Nat → PD) (m : Nat) (f : Nat → Int) (hm : m ≤ n) : Ret Try.prog 45 ([ivs m f, AV.fn 48 [AV.ptr 0 1 4 0 0]]) ([AObj.var (rn n g j1 j2 k p)]) (AV.bool (r45b.v g m f)) ([AObj.var (rn n g j1 j2 k p)]) := by
  have o0 : n ≤ (9223372036854775807 : Nat) := by first | assumption | omega | (simp_all; done)
  have o1 : m ≤ n := by first | assumption | omega | (simp_all; done)
  have o2 : (0 : Int) ≤ (↑m : Int) ∨ (0 : Int) ≤ (0 : Int) := by first | assumption | omega | (simp_all; done)
  cases h1 : L45ba.run g m f 0 with
  | e0 =>
    exact Ret.of_runH mix [(AV.bool (r45b.v g m f))] ([AObj.var (rn n g j1 j2 k p)]) Try.func45 rfl [.loop (others 29 [1, 8, 9, 10]) (Exit.ret) (L45ba.X n g j1 j2 k p m f L45ba.O.e0) (L45ba.XH n g j1 j2 k p m f L45ba.O.e0)] (by simp) (kmp (by kernel_rfl) (And.intro (L45ba.e0 (n) (g) o0 (j1) (j2) (k) (p) (m) (f) o1 (0) (And.intro (show (0 : Int) ≤ (0 : Int) by first | decide | exact Int.NonNeg.mk _) o2) h1) (And.intro (And.intro (show (AV.bool false) = ((AV.bool (r45b.v g m f))) by first | (simp only [r45b.v, h1, cond_true, cond_false]; done) | (try unfold r45b.v; try simp only [h1, cond_true, cond_false]; try rfl; done) | rfl) trivial) (rfl : ([AObj.var (rn n g j1 j2 k p)] : AHeap) = [AObj.var (rn n g j1 j2 k p)]))))
  | e1 =>
    exact Ret.of_runH mix [(AV.bool (r45b.v g m f))] ([AObj.var (rn n g j1 j2 k p)]) Try.func45 rfl [.loop (others 29 [1, 8, 9, 10]) (Exit.exit 0) (L45ba.X n g j1 j2 k p m f L45ba.O.e1) (L45ba.XH n g j1 j2 k p m f L45ba.O.e1)] (by simp) (kmp (by kernel_rfl) (And.intro (L45ba.e1 (n) (g) o0 (j1) (j2) (k) (p) (m) (f) o1 (0) (And.intro (show (0 : Int) ≤ (0 : Int) by first | decide | exact Int.NonNeg.mk _) o2) h1) (And.intro (And.intro (show (AV.bool true) = ((AV.bool (r45b.v g m f))) by first | (simp only [r45b.v, h1, cond_true, cond_false]; done) | (try unfold r45b.v; try simp only [h1, cond_true, cond_false]; try rfl; done) | rfl) trivial) (rfl : ([AObj.var (rn n g j1 j2 k p)] : AHeap) = [AObj.var (rn n g j1 j2 k p)]))))

inductive L45ca.O where
  | e0
  | e1
noncomputable def L45ca.T (n : Nat) (g : Nat → PD) (j1 : Int) (j2 : Int) (k : Nat) (p : Nat → PD) (m : Nat) (f : Nat → Int) (a10 : Int) : List AV := mkT 29 [(1, AV.fn 49 [AV.ptr 0 1 4 0 0]), (8, AV.sl 1 m fun (i : Nat) => AV.int IntKind.i64 (f i)), (9, AV.int IntKind.i64 (↑m : Int)), (10, AV.int IntKind.i64 a10)]
noncomputable def L45ca.H (n : Nat) (g : Nat → PD) (j1 : Int) (j2 : Int) (k : Nat) (p : Nat → PD) (m : Nat) (f : Nat → Int) (a10 : Int) : AHeap := [AObj.var (AV.agg [AV.sl 2 n fun (i : Nat) => AV.agg [AV.int IntKind.i64 (g i).lo, AV.int IntKind.i64 (g i).hi], AV.int IntKind.i64 j1, AV.int IntKind.i64 j2, AV.sl 2 k fun (i : Nat) => AV.agg [AV.int IntKind.i64 (p i).lo, AV.int IntKind.i64 (p i).hi]])]
def L45ca.inv (n : Nat) (g : Nat → PD) (j1 : Int) (j2 : Int) (k : Nat) (p : Nat → PD) (m : Nat) (f : Nat → Int) (a10 : Int) : Prop := 0 ≤ a10 ∧ (a10 ≤ (↑m : Int) ∨ a10 ≤ 0)
noncomputable def L45ca.mu (n : Nat) (g : Nat → PD) (j1 : Int) (j2 : Int) (k : Nat) (p : Nat → PD) (m : Nat) (f : Nat → Int) (a10 : Int) : Nat := ((↑m : Int) - a10).toNat
noncomputable def L45ca.E : L45ca.O → Exit
  | .e0 => Exit.ret
  | .e1 => Exit.exit 0
noncomputable def L45ca.X (n : Nat) (g : Nat → PD) (j1 : Int) (j2 : Int) (k : Nat) (p : Nat → PD) (m : Nat) (f : Nat → Int) : L45ca.O → List AV
  | .e0 => mkT 29 [(4, (AV.bool false))]
  | .e1 => mkT 29 []
noncomputable def L45ca.XH (n : Nat) (g : Nat → PD) (j1 : Int) (j2 : Int) (k : Nat) (p : Nat → PD) (m : Nat) (f : Nat → Int) : L45ca.O → AHeap
  | .e0 => ([AObj.var (AV.agg [AV.sl 2 n fun (i : Nat) => AV.agg [AV.int IntKind.i64 (g i).lo, AV.int IntKind.i64 (g i).hi], AV.int IntKind.i64 j1, AV.int IntKind.i64 j2, AV.sl 2 k fun (i : Nat) => AV.agg [AV.int IntKind.i64 (p i).lo, AV.int IntKind.i64 (p i).hi]])])
  | .e1 => ([AObj.var (AV.agg [AV.sl 2 n fun (i : Nat) => AV.agg [AV.int IntKind.i64 (g i).lo, AV.int IntKind.i64 (g i).hi], AV.int IntKind.i64 j1, AV.int IntKind.i64 j2, AV.sl 2 k fun (i : Nat) => AV.agg [AV.int IntKind.i64 (p i).lo, AV.int IntKind.i64 (p i).hi]])])
noncomputable def L45ca.N (j1 : Int) (j2 : Int) (m : Nat) (f : Nat → Int) : Nat → Int → L45ca.O
  | 0, _ => .e0
  | k_ + 1, a10 => (bif decide (a10 < (↑m : Int)) then (bif decide (f a10.toNat < j1) then (.e0) else (bif decide (f a10.toNat > j2) then (.e0) else (L45ca.N j1 j2 m f k_ (IntKind.i64.wrap (a10 + 1))))) else (.e1))
noncomputable def L45ca.run (j1 : Int) (j2 : Int) (m : Nat) (f : Nat → Int) (a10 : Int) : L45ca.O := L45ca.N j1 j2 m f ((((↑m : Int) - a10).toNat) + 1) a10
def L45ca.Next (n : Nat) (g : Nat → PD) (j1 : Int) (j2 : Int) (k : Nat) (p : Nat → PD) (m : Nat) (f : Nat → Int) (k_ : Nat) (z_ : Int) (T_ : List AV) (h_ : AHeap) : Prop := LNextP (fun (z_ : Int) => L45ca.T n g j1 j2 k p m f z_) (fun (z_ : Int) => L45ca.H n g j1 j2 k p m f z_) (fun (z_ : Int) => L45ca.inv n g j1 j2 k p m f z_) (fun (z_ : Int) => L45ca.mu n g j1 j2 k p m f z_) (fun (k_ : Nat) (z_ : Int) => L45ca.N j1 j2 m f k_ z_) k_ z_ T_ h_
def L45ca.End (n : Nat) (g : Nat → PD) (j1 : Int) (j2 : Int) (k : Nat) (p : Nat → PD) (m : Nat) (f : Nat → Int) (k_ : Nat) (z_ : Int) (e_ : Exit) (T_ : List AV) (h_ : AHeap) : Prop := LEndP (fun (z_ : Int) => L45ca.H n g j1 j2 k p m f z_) (fun (k_ : Nat) (z_ : Int) => L45ca.N j1 j2 m f k_ z_) L45ca.E (L45ca.X n g j1 j2 k p m f) (L45ca.XH n g j1 j2 k p m f) k_ z_ e_ T_ h_
theorem L45ca.nx (n : Nat) (g : Nat → PD) (j1 : Int) (j2 : Int) (k : Nat) (p : Nat → PD) (m : Nat) (f : Nat → Int) {k_ : Nat} {z_ : Int} {h_ : AHeap} (s_ : Int) (h1 : L45ca.inv n g j1 j2 k p m f s_) (h2 : L45ca.mu n g j1 j2 k p m f s_ < L45ca.mu n g j1 j2 k p m f z_) (h3 : L45ca.N j1 j2 m f k_ s_ = L45ca.N j1 j2 m f (k_ + 1) z_) (h4 : PopOk (L45ca.H n g j1 j2 k p m f z_) h_ (L45ca.T n g j1 j2 k p m f s_) (L45ca.H n g j1 j2 k p m f s_)) : LNextP (fun (z_ : Int) => L45ca.T n g j1 j2 k p m f z_) (fun (z_ : Int) => L45ca.H n g j1 j2 k p m f z_) (fun (z_ : Int) => L45ca.inv n g j1 j2 k p m f z_) (fun (z_ : Int) => L45ca.mu n g j1 j2 k p m f z_) (fun (k_ : Nat) (z_ : Int) => L45ca.N j1 j2 m f k_ z_) k_ z_ (L45ca.T n g j1 j2 k p m f s_) h_ := LNextP.mk (Tm := (fun (z_ : Int) => L45ca.T n g j1 j2 k p m f z_)) (Hp := (fun (z_ : Int) => L45ca.H n g j1 j2 k p m f z_)) (inv := (fun (z_ : Int) => L45ca.inv n g j1 j2 k p m f z_)) (mu := (fun (z_ : Int) => L45ca.mu n g j1 j2 k p m f z_)) (l := (fun (k_ : Nat) (z_ : Int) => L45ca.N j1 j2 m f k_ z_)) s_ h1 h2 h3 h4
theorem L45ca.en (n : Nat) (g : Nat → PD) (j1 : Int) (j2 : Int) (k : Nat) (p : Nat → PD) (m : Nat) (f : Nat → Int) {k_ : Nat} {z_ : Int} {h_ : AHeap} (o_ : L45ca.O) (h3 : L45ca.N j1 j2 m f (k_ + 1) z_ = o_) (h4 : PopOk (L45ca.H n g j1 j2 k p m f z_) h_ (L45ca.X n g j1 j2 k p m f o_) (L45ca.XH n g j1 j2 k p m f o_)) : LEndP (fun (z_ : Int) => L45ca.H n g j1 j2 k p m f z_) (fun (k_ : Nat) (z_ : Int) => L45ca.N j1 j2 m f k_ z_) L45ca.E (L45ca.X n g j1 j2 k p m f) (L45ca.XH n g j1 j2 k p m f) k_ z_ (L45ca.E o_) (L45ca.X n g j1 j2 k p m f o_) h_ := LEndP.mk (Hp := (fun (z_ : Int) => L45ca.H n g j1 j2 k p m f z_)) (l := (fun (k_ : Nat) (z_ : Int) => L45ca.N j1 j2 m f k_ z_)) (oE := L45ca.E) (oT := L45ca.X n g j1 j2 k p m f) (oH := L45ca.XH n g j1 j2 k p m f) o_ h3 h4
noncomputable abbrev L45ca.h0 (n : Nat) (g : Nat → PD) (j1 : Int) (j2 : Int) (k : Nat) (p : Nat → PD) (m : Nat) (f : Nat → Int) (a10 : Int) : AHeap := ([AObj.var (AV.agg [AV.sl 2 n fun (i : Nat) => AV.agg [AV.int IntKind.i64 (g i).lo, AV.int IntKind.i64 (g i).hi], AV.int IntKind.i64 j1, AV.int IntKind.i64 j2, AV.sl 2 k fun (i : Nat) => AV.agg [AV.int IntKind.i64 (p i).lo, AV.int IntKind.i64 (p i).hi]])])
theorem L45ca.spec (n : Nat) (g : Nat → PD) (hn : n ≤ 9223372036854775807) (j1 : Int) (j2 : Int) (k : Nat) (p : Nat → PD) (m : Nat) (f : Nat → Int) (hm : m ≤ 9223372036854775807) (k_ : Nat) (z_ : Int) (hi_ : L45ca.inv n g j1 j2 k p m f z_) (hm_ : L45ca.mu n g j1 j2 k p m f z_ < k_) : LoopTo Try.prog (loopN Try.f45 0) (L45ca.T n g j1 j2 k p m f z_) (L45ca.H n g j1 j2 k p m f z_) (L45ca.E (L45ca.N j1 j2 m f k_ z_)) (L45ca.X n g j1 j2 k p m f (L45ca.N j1 j2 m f k_ z_)) (L45ca.XH n g j1 j2 k p m f (L45ca.N j1 j2 m f k_ z_)) := by
  refine LoopTo.fuelP mix (fun (z_ : Int) => L45ca.T n g j1 j2 k p m f z_) (fun (z_ : Int) => L45ca.H n g j1 j2 k p m f z_) (fun (z_ : Int) => L45ca.inv n g j1 j2 k p m f z_) (fun (z_ : Int) => L45ca.mu n g j1 j2 k p m f z_) (fun (k_ : Nat) (z_ : Int) => L45ca.N j1 j2 m f k_ z_) L45ca.E (L45ca.X n g j1 j2 k p m f) (L45ca.XH n g j1 j2 k p m f) (others 29 [1, 8, 9, 10]) (others 29 [4]) (others 29 []) ?_ k_ z_ hi_ hm_
  clear hm_ hi_ z_ k_
  intro k_ z_ hinv hmu
  revert hinv hmu; revert z_; intro a10 hinv hmu
  have hinv : 0 ≤ a10 ∧ (a10 ≤ (↑m : Int) ∨ a10 ≤ 0) := hinv
  have hmu : (((↑m : Int) - a10).toNat) < k_ + 1 := hmu
  cases h1 : decide (a10 < (↑m : Int)) with
  | true =>
    have h1p := of_decide_eq_true h1
    have o0 : (0 : Int) ≤ a10 := by first | assumption | omega | (simp_all; done)
    have o1 : a10 < (↑m : Int) := by first | assumption | omega | (simp_all; done)
    have o2 : n ≤ (9223372036854775807 : Nat) := by first | assumption | omega | (simp_all; done)
    cases h2 : decide (f a10.toNat < j1) with
    | true =>
      have h2p := of_decide_eq_true h2
      exact ⟨[.b true, .ret (AV.agg [AV.int IntKind.i64 j1, AV.int IntKind.i64 j2]) (L45ca.h0 n g j1 j2 k p m f a10), .b true, .b true, .b true, .b true, .b true, .b true], kmp (by kernel_rfl) (And.intro h1 (And.intro (And.intro o0 o1) (And.intro (r49 (n) (g) o2 (j1) (j2) (k) (p) (a10)) (And.intro h2 (And.intro h2 (And.intro h2 (And.intro h2 (And.intro h2 (And.intro (rfl : true = true) (L45ca.en n g j1 j2 k p m f (k_ := k_) (z_ := a10) (h_ := [AObj.var (AV.agg [AV.sl 2 n fun (i : Nat) => AV.agg [AV.int IntKind.i64 (g i).lo, AV.int IntKind.i64 (g i).hi], AV.int IntKind.i64 j1, AV.int IntKind.i64 j2, AV.sl 2 k fun (i : Nat) => AV.agg [AV.int IntKind.i64 (p i).lo, AV.int IntKind.i64 (p i).hi]]), AObj.var (AV.agg [AV.int IntKind.i64 j1, AV.int IntKind.i64 j2])]) (.e0 : L45ca.O) (by first | (simp only [L45ca.N, h1, h2, cond_true, cond_false]; done) | (try unfold L45ca.N; try simp only [h1, cond_true, cond_false]; try simp only [h2, cond_true, cond_false]; try rfl; done)) (PopOk.pop rfl (by simp [L45ca.T, L45ca.X, L45ca.H, L45ca.XH]))))))))))))⟩
    | false =>
      have h2p := of_decide_eq_false h2
      cases h3 : decide (f a10.toNat > j2) with
      | true =>
        have h3p := of_decide_eq_true h3
        exact ⟨[.b true, .ret (AV.agg [AV.int IntKind.i64 j1, AV.int IntKind.i64 j2]) (L45ca.h0 n g j1 j2 k p m f a10), .b false, .b false, .b false, .b false, .b false, .b true], kmp (by kernel_rfl) (And.intro h1 (And.intro (And.intro o0 o1) (And.intro (r49 (n) (g) o2 (j1) (j2) (k) (p) (a10)) (And.intro h2 (And.intro h2 (And.intro h2 (And.intro h2 (And.intro h2 (And.intro h3 (L45ca.en n g j1 j2 k p m f (k_ := k_) (z_ := a10) (h_ := [AObj.var (AV.agg [AV.sl 2 n fun (i : Nat) => AV.agg [AV.int IntKind.i64 (g i).lo, AV.int IntKind.i64 (g i).hi], AV.int IntKind.i64 j1, AV.int IntKind.i64 j2, AV.sl 2 k fun (i : Nat) => AV.agg [AV.int IntKind.i64 (p i).lo, AV.int IntKind.i64 (p i).hi]]), AObj.var (AV.agg [AV.int IntKind.i64 j1, AV.int IntKind.i64 j2])]) (.e0 : L45ca.O) (by first | (simp only [L45ca.N, h1, h2, h3, cond_true, cond_false]; done) | (try unfold L45ca.N; try simp only [h1, cond_true, cond_false]; try simp only [h2, cond_true, cond_false]; try simp only [h3, cond_true, cond_false]; try rfl; done)) (PopOk.pop rfl (by simp [L45ca.T, L45ca.X, L45ca.H, L45ca.XH]))))))))))))⟩
      | false =>
        have h3p := of_decide_eq_false h3
        try have := IntWalk.i64_in (a10 + 1) (by omega)
        have o3 : (0 : Int) ≤ IntKind.i64.wrap (a10 + (1 : Int)) := by first | assumption | omega | (simp_all; done)
        have o4 : IntKind.i64.wrap (a10 + (1 : Int)) ≤ (↑m : Int) ∨ IntKind.i64.wrap (a10 + (1 : Int)) ≤ (0 : Int) := by first | assumption | omega | (simp_all; done)
        have o5 : ((↑m : Int) - IntKind.i64.wrap (a10 + (1 : Int))).toNat < ((↑m : Int) - a10).toNat := by first | assumption | omega | (simp_all; done)
        exact ⟨[.b true, .ret (AV.agg [AV.int IntKind.i64 j1, AV.int IntKind.i64 j2]) (L45ca.h0 n g j1 j2 k p m f a10), .b false, .b false, .b false, .b false, .b false, .b false], kmp (by kernel_rfl) (And.intro h1 (And.intro (And.intro o0 o1) (And.intro (r49 (n) (g) o2 (j1) (j2) (k) (p) (a10)) (And.intro h2 (And.intro h2 (And.intro h2 (And.intro h2 (And.intro h2 (And.intro h3 (L45ca.nx n g j1 j2 k p m f (k_ := k_) (z_ := a10) (h_ := [AObj.var (AV.agg [AV.sl 2 n fun (i : Nat) => AV.agg [AV.int IntKind.i64 (g i).lo, AV.int IntKind.i64 (g i).hi], AV.int IntKind.i64 j1, AV.int IntKind.i64 j2, AV.sl 2 k fun (i : Nat) => AV.agg [AV.int IntKind.i64 (p i).lo, AV.int IntKind.i64 (p i).hi]]), AObj.var (AV.agg [AV.int IntKind.i64 j1, AV.int IntKind.i64 j2])]) (IntKind.i64.wrap (a10 + 1)) (And.intro o3 o4) o5 (by first | (simp only [L45ca.N, h1, h2, h3, cond_true, cond_false]; done) | (try unfold L45ca.N; try simp only [h1, cond_true, cond_false]; try simp only [h2, cond_true, cond_false]; try simp only [h3, cond_true, cond_false]; try rfl; done)) (PopOk.pop rfl (by simp [L45ca.T, L45ca.X, L45ca.H, L45ca.XH]))))))))))))⟩
  | false =>
    have h1p := of_decide_eq_false h1
    exact ⟨[.b false], kmp (by kernel_rfl) (And.intro h1 (L45ca.en n g j1 j2 k p m f (k_ := k_) (z_ := a10) (.e1 : L45ca.O) (by first | (simp only [L45ca.N, h1, cond_true, cond_false]; done) | (try unfold L45ca.N; try simp only [h1, cond_true, cond_false]; try rfl; done)) PopOk.same))⟩
theorem L45ca.e0 (n : Nat) (g : Nat → PD) (hn : n ≤ 9223372036854775807) (j1 : Int) (j2 : Int) (k : Nat) (p : Nat → PD) (m : Nat) (f : Nat → Int) (hm : m ≤ 9223372036854775807) (a10 : Int) (hinv : L45ca.inv n g j1 j2 k p m f a10) (hN : L45ca.run j1 j2 m f a10 = (.e0 : L45ca.O)) : LoopTo Try.prog (loopN Try.f45 0) (L45ca.T n g j1 j2 k p m f a10) (L45ca.H n g j1 j2 k p m f a10) (Exit.ret) (L45ca.X n g j1 j2 k p m f (.e0 : L45ca.O)) (L45ca.XH n g j1 j2 k p m f (.e0 : L45ca.O)) := by
  have h_ := L45ca.spec n g hn j1 j2 k p m f hm ((((↑m : Int) - a10).toNat) + 1) a10 hinv (Nat.lt_succ_self _)
  unfold L45ca.run at hN
  simp only [hN] at h_
  exact h_
theorem L45ca.e1 (n : Nat) (g : Nat → PD) (hn : n ≤ 9223372036854775807) (j1 : Int) (j2 : Int) (k : Nat) (p : Nat → PD) (m : Nat) (f : Nat → Int) (hm : m ≤ 9223372036854775807) (a10 : Int) (hinv : L45ca.inv n g j1 j2 k p m f a10) (hN : L45ca.run j1 j2 m f a10 = (.e1 : L45ca.O)) : LoopTo Try.prog (loopN Try.f45 0) (L45ca.T n g j1 j2 k p m f a10) (L45ca.H n g j1 j2 k p m f a10) (Exit.exit 0) (L45ca.X n g j1 j2 k p m f (.e1 : L45ca.O)) (L45ca.XH n g j1 j2 k p m f (.e1 : L45ca.O)) := by
  have h_ := L45ca.spec n g hn j1 j2 k p m f hm ((((↑m : Int) - a10).toNat) + 1) a10 hinv (Nat.lt_succ_self _)
  unfold L45ca.run at hN
  simp only [hN] at h_
  exact h_

noncomputable def r45c.v (j1 : Int) (j2 : Int) (m : Nat) (f : Nat → Int) : Bool := (match L45ca.run j1 j2 m f 0 with | .e0 => false | .e1 => true )
theorem r45c (n : Nat) (g : Nat → PD) (hn : n ≤ 9223372036854775807) (j1 : Int) (j2 : Int) (k : Nat) (p : Nat → PD) (m : Nat) (f : Nat → Int) (hm : m ≤ 9223372036854775807) : Ret Try.prog 45 ([ivs m f, AV.fn 49 [AV.ptr 0 1 4 0 0]]) ([AObj.var (rn n g j1 j2 k p)]) (AV.bool (r45c.v j1 j2 m f)) ([AObj.var (rn n g j1 j2 k p)]) := by
  have o0 : n ≤ (9223372036854775807 : Nat) := by first | assumption | omega | (simp_all; done)
  have o1 : m ≤ (9223372036854775807 : Nat) := by first | assumption | omega | (simp_all; done)
  have o2 : (0 : Int) ≤ (↑m : Int) ∨ (0 : Int) ≤ (0 : Int) := by first | assumption | omega | (simp_all; done)
  cases h1 : L45ca.run j1 j2 m f 0 with
  | e0 =>
    exact Ret.of_runH mix [(AV.bool (r45c.v j1 j2 m f))] ([AObj.var (rn n g j1 j2 k p)]) Try.func45 rfl [.loop (others 29 [1, 8, 9, 10]) (Exit.ret) (L45ca.X n g j1 j2 k p m f L45ca.O.e0) (L45ca.XH n g j1 j2 k p m f L45ca.O.e0)] (by simp) (kmp (by kernel_rfl) (And.intro (L45ca.e0 (n) (g) o0 (j1) (j2) (k) (p) (m) (f) o1 (0) (And.intro (show (0 : Int) ≤ (0 : Int) by first | decide | exact Int.NonNeg.mk _) o2) h1) (And.intro (And.intro (show (AV.bool false) = ((AV.bool (r45c.v j1 j2 m f))) by first | (simp only [r45c.v, h1, cond_true, cond_false]; done) | (try unfold r45c.v; try simp only [h1, cond_true, cond_false]; try rfl; done) | rfl) trivial) (rfl : ([AObj.var (rn n g j1 j2 k p)] : AHeap) = [AObj.var (rn n g j1 j2 k p)]))))
  | e1 =>
    exact Ret.of_runH mix [(AV.bool (r45c.v j1 j2 m f))] ([AObj.var (rn n g j1 j2 k p)]) Try.func45 rfl [.loop (others 29 [1, 8, 9, 10]) (Exit.exit 0) (L45ca.X n g j1 j2 k p m f L45ca.O.e1) (L45ca.XH n g j1 j2 k p m f L45ca.O.e1)] (by simp) (kmp (by kernel_rfl) (And.intro (L45ca.e1 (n) (g) o0 (j1) (j2) (k) (p) (m) (f) o1 (0) (And.intro (show (0 : Int) ≤ (0 : Int) by first | decide | exact Int.NonNeg.mk _) o2) h1) (And.intro (And.intro (show (AV.bool true) = ((AV.bool (r45c.v j1 j2 m f))) by first | (simp only [r45c.v, h1, cond_true, cond_false]; done) | (try unfold r45c.v; try simp only [h1, cond_true, cond_false]; try rfl; done) | rfl) trivial) (rfl : ([AObj.var (rn n g j1 j2 k p)] : AHeap) = [AObj.var (rn n g j1 j2 k p)]))))

inductive L47a.O where
  | e0 (a0 : Int)
noncomputable def L47a.T (m : Nat) (f : Nat → Int) (a3 : Int) (a8 : Int) : List AV := mkT 17 [(3, AV.int IntKind.i64 a3), (6, AV.sl 1 m fun (i : Nat) => AV.int IntKind.i64 (f i)), (7, AV.int IntKind.i64 (↑m : Int)), (8, AV.int IntKind.i64 a8)]
noncomputable def L47a.H (m : Nat) (f : Nat → Int) (a3 : Int) (a8 : Int) : AHeap := []
def L47a.inv (m : Nat) (f : Nat → Int) (a3 : Int) (a8 : Int) : Prop := 0 ≤ a8 ∧ (a8 ≤ (↑m : Int) ∨ a8 ≤ 0)
noncomputable def L47a.mu (m : Nat) (f : Nat → Int) (a3 : Int) (a8 : Int) : Nat := ((↑m : Int) - a8).toNat
noncomputable def L47a.E : L47a.O → Exit
  | .e0 a0 => Exit.exit 0
noncomputable def L47a.X (m : Nat) (f : Nat → Int) : L47a.O → List AV
  | .e0 a0 => mkT 17 [(3, (AV.int IntKind.i64 a0))]
noncomputable def L47a.XH (m : Nat) (f : Nat → Int) : L47a.O → AHeap
  | .e0 a0 => ([])
noncomputable def L47a.N (m : Nat) (f : Nat → Int) : Nat → Int → Int → L47a.O
  | 0, _, _ => .e0 default
  | k_ + 1, a3, a8 => (bif decide (a8 < (↑m : Int)) then (L47a.N m f k_ (IntKind.i64.wrap (a3 + f a8.toNat)) (IntKind.i64.wrap (a8 + 1))) else (.e0 (a3)))
noncomputable def L47a.run (m : Nat) (f : Nat → Int) (a3 : Int) (a8 : Int) : L47a.O := L47a.N m f ((((↑m : Int) - a8).toNat) + 1) a3 a8
def L47a.Next (m : Nat) (f : Nat → Int) (k_ : Nat) (z_ : Int × Int) (T_ : List AV) (h_ : AHeap) : Prop := LNextP (fun (z_ : Int × Int) => L47a.T m f z_.1 z_.2) (fun (z_ : Int × Int) => L47a.H m f z_.1 z_.2) (fun (z_ : Int × Int) => L47a.inv m f z_.1 z_.2) (fun (z_ : Int × Int) => L47a.mu m f z_.1 z_.2) (fun (k_ : Nat) (z_ : Int × Int) => L47a.N m f k_ z_.1 z_.2) k_ z_ T_ h_
def L47a.End (m : Nat) (f : Nat → Int) (k_ : Nat) (z_ : Int × Int) (e_ : Exit) (T_ : List AV) (h_ : AHeap) : Prop := LEndP (fun (z_ : Int × Int) => L47a.H m f z_.1 z_.2) (fun (k_ : Nat) (z_ : Int × Int) => L47a.N m f k_ z_.1 z_.2) L47a.E (L47a.X m f) (L47a.XH m f) k_ z_ e_ T_ h_
theorem L47a.nx (m : Nat) (f : Nat → Int) {k_ : Nat} {z_ : Int × Int} {h_ : AHeap} (s_ : Int × Int) (h1 : L47a.inv m f s_.1 s_.2) (h2 : L47a.mu m f s_.1 s_.2 < L47a.mu m f z_.1 z_.2) (h3 : L47a.N m f k_ s_.1 s_.2 = L47a.N m f (k_ + 1) z_.1 z_.2) (h4 : PopOk (L47a.H m f z_.1 z_.2) h_ (L47a.T m f s_.1 s_.2) (L47a.H m f s_.1 s_.2)) : LNextP (fun (z_ : Int × Int) => L47a.T m f z_.1 z_.2) (fun (z_ : Int × Int) => L47a.H m f z_.1 z_.2) (fun (z_ : Int × Int) => L47a.inv m f z_.1 z_.2) (fun (z_ : Int × Int) => L47a.mu m f z_.1 z_.2) (fun (k_ : Nat) (z_ : Int × Int) => L47a.N m f k_ z_.1 z_.2) k_ z_ (L47a.T m f s_.1 s_.2) h_ := LNextP.mk (Tm := (fun (z_ : Int × Int) => L47a.T m f z_.1 z_.2)) (Hp := (fun (z_ : Int × Int) => L47a.H m f z_.1 z_.2)) (inv := (fun (z_ : Int × Int) => L47a.inv m f z_.1 z_.2)) (mu := (fun (z_ : Int × Int) => L47a.mu m f z_.1 z_.2)) (l := (fun (k_ : Nat) (z_ : Int × Int) => L47a.N m f k_ z_.1 z_.2)) s_ h1 h2 h3 h4
theorem L47a.en (m : Nat) (f : Nat → Int) {k_ : Nat} {z_ : Int × Int} {h_ : AHeap} (o_ : L47a.O) (h3 : L47a.N m f (k_ + 1) z_.1 z_.2 = o_) (h4 : PopOk (L47a.H m f z_.1 z_.2) h_ (L47a.X m f o_) (L47a.XH m f o_)) : LEndP (fun (z_ : Int × Int) => L47a.H m f z_.1 z_.2) (fun (k_ : Nat) (z_ : Int × Int) => L47a.N m f k_ z_.1 z_.2) L47a.E (L47a.X m f) (L47a.XH m f) k_ z_ (L47a.E o_) (L47a.X m f o_) h_ := LEndP.mk (Hp := (fun (z_ : Int × Int) => L47a.H m f z_.1 z_.2)) (l := (fun (k_ : Nat) (z_ : Int × Int) => L47a.N m f k_ z_.1 z_.2)) (oE := L47a.E) (oT := L47a.X m f) (oH := L47a.XH m f) o_ h3 h4
theorem L47a.spec (m : Nat) (f : Nat → Int) (hm : m ≤ 9223372036854775807) (k_ : Nat) (z_ : Int × Int) (hi_ : L47a.inv m f z_.1 z_.2) (hm_ : L47a.mu m f z_.1 z_.2 < k_) : LoopTo Try.prog (loopN Try.f47 0) (L47a.T m f z_.1 z_.2) (L47a.H m f z_.1 z_.2) (L47a.E (L47a.N m f k_ z_.1 z_.2)) (L47a.X m f (L47a.N m f k_ z_.1 z_.2)) (L47a.XH m f (L47a.N m f k_ z_.1 z_.2)) := by
  refine LoopTo.fuelP mix (fun (z_ : Int × Int) => L47a.T m f z_.1 z_.2) (fun (z_ : Int × Int) => L47a.H m f z_.1 z_.2) (fun (z_ : Int × Int) => L47a.inv m f z_.1 z_.2) (fun (z_ : Int × Int) => L47a.mu m f z_.1 z_.2) (fun (k_ : Nat) (z_ : Int × Int) => L47a.N m f k_ z_.1 z_.2) L47a.E (L47a.X m f) (L47a.XH m f) (others 17 [3, 6, 7, 8]) (others 17 [2]) (others 17 [3]) ?_ k_ z_ hi_ hm_
  clear hm_ hi_ z_ k_
  intro k_ z_ hinv hmu
  obtain ⟨a3, a8⟩ := z_
  have hinv : 0 ≤ a8 ∧ (a8 ≤ (↑m : Int) ∨ a8 ≤ 0) := hinv
  have hmu : (((↑m : Int) - a8).toNat) < k_ + 1 := hmu
  cases h1 : decide (a8 < (↑m : Int)) with
  | true =>
    have h1p := of_decide_eq_true h1
    have o0 : (0 : Int) ≤ a8 := by first | assumption | omega | (simp_all; done)
    have o1 : a8 < (↑m : Int) := by first | assumption | omega | (simp_all; done)
    try have := IntWalk.i64_in (a8 + 1) (by omega)
    have o2 : (0 : Int) ≤ IntKind.i64.wrap (a8 + (1 : Int)) := by first | assumption | omega | (simp_all; done)
    have o3 : IntKind.i64.wrap (a8 + (1 : Int)) ≤ (↑m : Int) ∨ IntKind.i64.wrap (a8 + (1 : Int)) ≤ (0 : Int) := by first | assumption | omega | (simp_all; done)
    have o4 : ((↑m : Int) - IntKind.i64.wrap (a8 + (1 : Int))).toNat < ((↑m : Int) - a8).toNat := by first | assumption | omega | (simp_all; done)
    exact ⟨[.b true], kmp (by kernel_rfl) (And.intro h1 (And.intro (And.intro o0 o1) (L47a.nx m f (k_ := k_) (z_ := (a3, a8)) ((IntKind.i64.wrap (a3 + f a8.toNat), IntKind.i64.wrap (a8 + 1))) (And.intro o2 o3) o4 (by first | (simp only [L47a.N, h1, cond_true, cond_false]; done) | (try unfold L47a.N; try simp only [h1, cond_true, cond_false]; try rfl; done)) PopOk.same)))⟩
  | false =>
    have h1p := of_decide_eq_false h1
    exact ⟨[.b false], kmp (by kernel_rfl) (And.intro h1 (L47a.en m f (k_ := k_) (z_ := (a3, a8)) (.e0 (a3) : L47a.O) (by first | (simp only [L47a.N, h1, cond_true, cond_false]; done) | (try unfold L47a.N; try simp only [h1, cond_true, cond_false]; try rfl; done)) PopOk.same))⟩
theorem L47a.e0 (m : Nat) (f : Nat → Int) (hm : m ≤ 9223372036854775807) (a3 : Int) (a8 : Int) (hinv : L47a.inv m f a3 a8) (a0 : Int) (hN : L47a.run m f a3 a8 = (.e0 a0 : L47a.O)) : LoopTo Try.prog (loopN Try.f47 0) (L47a.T m f a3 a8) (L47a.H m f a3 a8) (Exit.exit 0) (L47a.X m f (.e0 a0 : L47a.O)) (L47a.XH m f (.e0 a0 : L47a.O)) := by
  have h_ := L47a.spec m f hm ((((↑m : Int) - a8).toNat) + 1) (a3, a8) hinv (Nat.lt_succ_self _)
  unfold L47a.run at hN
  simp only [hN] at h_
  exact h_

noncomputable def r47.v (m : Nat) (f : Nat → Int) : Int := (match L47a.run m f 0 0 with | .e0 h1d0 => h1d0 )
theorem r47 (m : Nat) (f : Nat → Int) (hm : m ≤ 9223372036854775807) (h : AHeap) : Ret Try.prog 47 ([ivs m f]) h (AV.int IntKind.i64 (r47.v m f)) h := by
  have o0 : m ≤ (9223372036854775807 : Nat) := by first | assumption | omega | (simp_all; done)
  have o1 : (0 : Int) ≤ (↑m : Int) ∨ (0 : Int) ≤ (0 : Int) := by first | assumption | omega | (simp_all; done)
  cases h1 : L47a.run m f 0 0 with
  | e0 h1d0 =>
    exact Ret.of_run1 mix [(AV.int IntKind.i64 (r47.v m f))] Try.func47 rfl [.loop (others 17 [3, 6, 7, 8]) (Exit.exit 0) (L47a.X m f (L47a.O.e0 h1d0)) (L47a.XH m f (L47a.O.e0 h1d0))] (by simp) (by simp) (kmp (by kernel_rfl) (And.intro (L47a.e0 (m) (f) o0 (0) (0) (And.intro (show (0 : Int) ≤ (0 : Int) by first | decide | exact Int.NonNeg.mk _) o1) h1d0 h1) (And.intro (show (AV.int IntKind.i64 h1d0) = ((AV.int IntKind.i64 (r47.v m f))) by first | (simp only [r47.v, h1, cond_true, cond_false]; done) | (try unfold r47.v; try simp only [h1, cond_true, cond_false]; try rfl; done) | rfl) trivial))) h

inductive L25a.O where
  | e0
  | e1
noncomputable def L25a.T (n : Nat) (g : Nat → PD) (j1 : Int) (j2 : Int) (k : Nat) (p : Nat → PD) (m : Nat) (f : Nat → Int) (a5 : Int) : List AV := mkT 36 [(1, AV.sl 1 m fun (i : Nat) => AV.int IntKind.i64 (f i)), (2, AV.ptr 0 1 4 0 0), (5, AV.int IntKind.i64 a5)]
noncomputable def L25a.H (n : Nat) (g : Nat → PD) (j1 : Int) (j2 : Int) (k : Nat) (p : Nat → PD) (m : Nat) (f : Nat → Int) (a5 : Int) : AHeap := [AObj.var (AV.agg [AV.sl 2 n fun (i : Nat) => AV.agg [AV.int IntKind.i64 (g i).lo, AV.int IntKind.i64 (g i).hi], AV.int IntKind.i64 j1, AV.int IntKind.i64 j2, AV.sl 2 k fun (i : Nat) => AV.agg [AV.int IntKind.i64 (p i).lo, AV.int IntKind.i64 (p i).hi]])]
def L25a.inv (n : Nat) (g : Nat → PD) (j1 : Int) (j2 : Int) (k : Nat) (p : Nat → PD) (m : Nat) (f : Nat → Int) (a5 : Int) : Prop := 0 ≤ a5 ∧ (a5 ≤ (↑m : Int) ∨ a5 ≤ 0)
noncomputable def L25a.mu (n : Nat) (g : Nat → PD) (j1 : Int) (j2 : Int) (k : Nat) (p : Nat → PD) (m : Nat) (f : Nat → Int) (a5 : Int) : Nat := ((↑m : Int) - a5).toNat
noncomputable def L25a.E : L25a.O → Exit
  | .e0 => Exit.ret
  | .e1 => Exit.exit 0
noncomputable def L25a.X (n : Nat) (g : Nat → PD) (j1 : Int) (j2 : Int) (k : Nat) (p : Nat → PD) (m : Nat) (f : Nat → Int) : L25a.O → List AV
  | .e0 => mkT 36 [(4, (AV.bool false))]
  | .e1 => mkT 36 []
noncomputable def L25a.XH (n : Nat) (g : Nat → PD) (j1 : Int) (j2 : Int) (k : Nat) (p : Nat → PD) (m : Nat) (f : Nat → Int) : L25a.O → AHeap
  | .e0 => ([AObj.var (AV.agg [AV.sl 2 n fun (i : Nat) => AV.agg [AV.int IntKind.i64 (g i).lo, AV.int IntKind.i64 (g i).hi], AV.int IntKind.i64 j1, AV.int IntKind.i64 j2, AV.sl 2 k fun (i : Nat) => AV.agg [AV.int IntKind.i64 (p i).lo, AV.int IntKind.i64 (p i).hi]])])
  | .e1 => ([AObj.var (AV.agg [AV.sl 2 n fun (i : Nat) => AV.agg [AV.int IntKind.i64 (g i).lo, AV.int IntKind.i64 (g i).hi], AV.int IntKind.i64 j1, AV.int IntKind.i64 j2, AV.sl 2 k fun (i : Nat) => AV.agg [AV.int IntKind.i64 (p i).lo, AV.int IntKind.i64 (p i).hi]])])
noncomputable def L25a.N (g : Nat → PD) (m : Nat) (f : Nat → Int) : Nat → Int → L25a.O
  | 0, _ => .e0
  | k_ + 1, a5 => (bif decide (a5 < (↑m : Int)) then (bif decide (f a5.toNat < (g a5.toNat).lo) then (.e0) else (bif decide (f a5.toNat > (g a5.toNat).hi) then (.e0) else (L25a.N g m f k_ (IntKind.i64.wrap (a5 + 1))))) else (.e1))
noncomputable def L25a.run (g : Nat → PD) (m : Nat) (f : Nat → Int) (a5 : Int) : L25a.O := L25a.N g m f ((((↑m : Int) - a5).toNat) + 1) a5
def L25a.Next (n : Nat) (g : Nat → PD) (j1 : Int) (j2 : Int) (k : Nat) (p : Nat → PD) (m : Nat) (f : Nat → Int) (k_ : Nat) (z_ : Int) (T_ : List AV) (h_ : AHeap) : Prop := LNextP (fun (z_ : Int) => L25a.T n g j1 j2 k p m f z_) (fun (z_ : Int) => L25a.H n g j1 j2 k p m f z_) (fun (z_ : Int) => L25a.inv n g j1 j2 k p m f z_) (fun (z_ : Int) => L25a.mu n g j1 j2 k p m f z_) (fun (k_ : Nat) (z_ : Int) => L25a.N g m f k_ z_) k_ z_ T_ h_
def L25a.End (n : Nat) (g : Nat → PD) (j1 : Int) (j2 : Int) (k : Nat) (p : Nat → PD) (m : Nat) (f : Nat → Int) (k_ : Nat) (z_ : Int) (e_ : Exit) (T_ : List AV) (h_ : AHeap) : Prop := LEndP (fun (z_ : Int) => L25a.H n g j1 j2 k p m f z_) (fun (k_ : Nat) (z_ : Int) => L25a.N g m f k_ z_) L25a.E (L25a.X n g j1 j2 k p m f) (L25a.XH n g j1 j2 k p m f) k_ z_ e_ T_ h_
theorem L25a.nx (n : Nat) (g : Nat → PD) (j1 : Int) (j2 : Int) (k : Nat) (p : Nat → PD) (m : Nat) (f : Nat → Int) {k_ : Nat} {z_ : Int} {h_ : AHeap} (s_ : Int) (h1 : L25a.inv n g j1 j2 k p m f s_) (h2 : L25a.mu n g j1 j2 k p m f s_ < L25a.mu n g j1 j2 k p m f z_) (h3 : L25a.N g m f k_ s_ = L25a.N g m f (k_ + 1) z_) (h4 : PopOk (L25a.H n g j1 j2 k p m f z_) h_ (L25a.T n g j1 j2 k p m f s_) (L25a.H n g j1 j2 k p m f s_)) : LNextP (fun (z_ : Int) => L25a.T n g j1 j2 k p m f z_) (fun (z_ : Int) => L25a.H n g j1 j2 k p m f z_) (fun (z_ : Int) => L25a.inv n g j1 j2 k p m f z_) (fun (z_ : Int) => L25a.mu n g j1 j2 k p m f z_) (fun (k_ : Nat) (z_ : Int) => L25a.N g m f k_ z_) k_ z_ (L25a.T n g j1 j2 k p m f s_) h_ := LNextP.mk (Tm := (fun (z_ : Int) => L25a.T n g j1 j2 k p m f z_)) (Hp := (fun (z_ : Int) => L25a.H n g j1 j2 k p m f z_)) (inv := (fun (z_ : Int) => L25a.inv n g j1 j2 k p m f z_)) (mu := (fun (z_ : Int) => L25a.mu n g j1 j2 k p m f z_)) (l := (fun (k_ : Nat) (z_ : Int) => L25a.N g m f k_ z_)) s_ h1 h2 h3 h4
theorem L25a.en (n : Nat) (g : Nat → PD) (j1 : Int) (j2 : Int) (k : Nat) (p : Nat → PD) (m : Nat) (f : Nat → Int) {k_ : Nat} {z_ : Int} {h_ : AHeap} (o_ : L25a.O) (h3 : L25a.N g m f (k_ + 1) z_ = o_) (h4 : PopOk (L25a.H n g j1 j2 k p m f z_) h_ (L25a.X n g j1 j2 k p m f o_) (L25a.XH n g j1 j2 k p m f o_)) : LEndP (fun (z_ : Int) => L25a.H n g j1 j2 k p m f z_) (fun (k_ : Nat) (z_ : Int) => L25a.N g m f k_ z_) L25a.E (L25a.X n g j1 j2 k p m f) (L25a.XH n g j1 j2 k p m f) k_ z_ (L25a.E o_) (L25a.X n g j1 j2 k p m f o_) h_ := LEndP.mk (Hp := (fun (z_ : Int) => L25a.H n g j1 j2 k p m f z_)) (l := (fun (k_ : Nat) (z_ : Int) => L25a.N g m f k_ z_)) (oE := L25a.E) (oT := L25a.X n g j1 j2 k p m f) (oH := L25a.XH n g j1 j2 k p m f) o_ h3 h4
theorem L25a.spec (n : Nat) (g : Nat → PD) (hn : n ≤ 9223372036854775807) (j1 : Int) (j2 : Int) (k : Nat) (p : Nat → PD) (m : Nat) (f : Nat → Int) (hm : m ≤ n) (k_ : Nat) (z_ : Int) (hi_ : L25a.inv n g j1 j2 k p m f z_) (hm_ : L25a.mu n g j1 j2 k p m f z_ < k_) : LoopTo Try.prog (loopN Try.f25 0) (L25a.T n g j1 j2 k p m f z_) (L25a.H n g j1 j2 k p m f z_) (L25a.E (L25a.N g m f k_ z_)) (L25a.X n g j1 j2 k p m f (L25a.N g m f k_ z_)) (L25a.XH n g j1 j2 k p m f (L25a.N g m f k_ z_)) := by
  refine LoopTo.fuelP mix (fun (z_ : Int) => L25a.T n g j1 j2 k p m f z_) (fun (z_ : Int) => L25a.H n g j1 j2 k p m f z_) (fun (z_ : Int) => L25a.inv n g j1 j2 k p m f z_) (fun (z_ : Int) => L25a.mu n g j1 j2 k p m f z_) (fun (k_ : Nat) (z_ : Int) => L25a.N g m f k_ z_) L25a.E (L25a.X n g j1 j2 k p m f) (L25a.XH n g j1 j2 k p m f) (others 36 [1, 2, 5]) (others 36 [4]) (others 36 []) ?_ k_ z_ hi_ hm_
  clear hm_ hi_ z_ k_
  intro k_ z_ hinv hmu
  revert hinv hmu; revert z_; intro a5 hinv hmu
  have hinv : 0 ≤ a5 ∧ (a5 ≤ (↑m : Int) ∨ a5 ≤ 0) := hinv
  have hmu : (((↑m : Int) - a5).toNat) < k_ + 1 := hmu
  cases h1 : decide (a5 < (↑m : Int)) with
  | true =>
    have h1p := of_decide_eq_true h1
    have o0 : (0 : Int) ≤ a5 := by first | assumption | omega | (simp_all; done)
    have o1 : a5 < (↑m : Int) := by first | assumption | omega | (simp_all; done)
    have o2 : a5 < (↑n : Int) := by first | assumption | omega | (simp_all; done)
    cases h2 : decide (f a5.toNat < (g a5.toNat).lo) with
    | true =>
      have h2p := of_decide_eq_true h2
      exact ⟨[.b true, .b true, .b true, .b true, .b true, .b true, .b true, .b true, .b true, .b true, .b true, .b true, .b true, .b true], kmp (by kernel_rfl) (And.intro h1 (And.intro (And.intro o0 o1) (And.intro (And.intro o0 o2) (And.intro h2 (And.intro h2 (And.intro h2 (And.intro h2 (And.intro h2 (And.intro h2 (And.intro h2 (And.intro h2 (And.intro h2 (And.intro h2 (And.intro h2 (And.intro h2 (And.intro (rfl : true = true) (L25a.en n g j1 j2 k p m f (k_ := k_) (z_ := a5) (.e0 : L25a.O) (by first | (simp only [L25a.N, h1, h2, cond_true, cond_false]; done) | (try unfold L25a.N; try simp only [h1, cond_true, cond_false]; try simp only [h2, cond_true, cond_false]; try rfl; done)) PopOk.same)))))))))))))))))⟩
    | false =>
      have h2p := of_decide_eq_false h2
      cases h3 : decide (f a5.toNat > (g a5.toNat).hi) with
      | true =>
        have h3p := of_decide_eq_true h3
        exact ⟨[.b true, .b false, .b false, .b false, .b false, .b false, .b false, .b false, .b false, .b false, .b false, .b false, .b false, .b true], kmp (by kernel_rfl) (And.intro h1 (And.intro (And.intro o0 o1) (And.intro (And.intro o0 o2) (And.intro h2 (And.intro h2 (And.intro h2 (And.intro (And.intro o0 o1) (And.intro h2 (And.intro h2 (And.intro h2 (And.intro h2 (And.intro h2 (And.intro (And.intro o0 o2) (And.intro h2 (And.intro h2 (And.intro h2 (And.intro h2 (And.intro h3 (L25a.en n g j1 j2 k p m f (k_ := k_) (z_ := a5) (.e0 : L25a.O) (by first | (simp only [L25a.N, h1, h2, h3, cond_true, cond_false]; done) | (try unfold L25a.N; try simp only [h1, cond_true, cond_false]; try simp only [h2, cond_true, cond_false]; try simp only [h3, cond_true, cond_false]; try rfl; done)) PopOk.same)))))))))))))))))))⟩
      | false =>
        have h3p := of_decide_eq_false h3
        try have := IntWalk.i64_in (a5 + 1) (by omega)
        have o3 : (0 : Int) ≤ IntKind.i64.wrap (a5 + (1 : Int)) := by first | assumption | omega | (simp_all; done)
        have o4 : IntKind.i64.wrap (a5 + (1 : Int)) ≤ (↑m : Int) ∨ IntKind.i64.wrap (a5 + (1 : Int)) ≤ (0 : Int) := by first | assumption | omega | (simp_all; done)
        have o5 : ((↑m : Int) - IntKind.i64.wrap (a5 + (1 : Int))).toNat < ((↑m : Int) - a5).toNat := by first | assumption | omega | (simp_all; done)
        exact ⟨[.b true, .b false, .b false, .b false, .b false, .b false, .b false, .b false, .b false, .b false, .b false, .b false, .b false, .b false], kmp (by kernel_rfl) (And.intro h1 (And.intro (And.intro o0 o1) (And.intro (And.intro o0 o2) (And.intro h2 (And.intro h2 (And.intro h2 (And.intro (And.intro o0 o1) (And.intro h2 (And.intro h2 (And.intro h2 (And.intro h2 (And.intro h2 (And.intro (And.intro o0 o2) (And.intro h2 (And.intro h2 (And.intro h2 (And.intro h2 (And.intro h3 (L25a.nx n g j1 j2 k p m f (k_ := k_) (z_ := a5) (IntKind.i64.wrap (a5 + 1)) (And.intro o3 o4) o5 (by first | (simp only [L25a.N, h1, h2, h3, cond_true, cond_false]; done) | (try unfold L25a.N; try simp only [h1, cond_true, cond_false]; try simp only [h2, cond_true, cond_false]; try simp only [h3, cond_true, cond_false]; try rfl; done)) PopOk.same)))))))))))))))))))⟩
  | false =>
    have h1p := of_decide_eq_false h1
    exact ⟨[.b false], kmp (by kernel_rfl) (And.intro h1 (L25a.en n g j1 j2 k p m f (k_ := k_) (z_ := a5) (.e1 : L25a.O) (by first | (simp only [L25a.N, h1, cond_true, cond_false]; done) | (try unfold L25a.N; try simp only [h1, cond_true, cond_false]; try rfl; done)) PopOk.same))⟩
theorem L25a.e0 (n : Nat) (g : Nat → PD) (hn : n ≤ 9223372036854775807) (j1 : Int) (j2 : Int) (k : Nat) (p : Nat → PD) (m : Nat) (f : Nat → Int) (hm : m ≤ n) (a5 : Int) (hinv : L25a.inv n g j1 j2 k p m f a5) (hN : L25a.run g m f a5 = (.e0 : L25a.O)) : LoopTo Try.prog (loopN Try.f25 0) (L25a.T n g j1 j2 k p m f a5) (L25a.H n g j1 j2 k p m f a5) (Exit.ret) (L25a.X n g j1 j2 k p m f (.e0 : L25a.O)) (L25a.XH n g j1 j2 k p m f (.e0 : L25a.O)) := by
  have h_ := L25a.spec n g hn j1 j2 k p m f hm ((((↑m : Int) - a5).toNat) + 1) a5 hinv (Nat.lt_succ_self _)
  unfold L25a.run at hN
  simp only [hN] at h_
  exact h_
theorem L25a.e1 (n : Nat) (g : Nat → PD) (hn : n ≤ 9223372036854775807) (j1 : Int) (j2 : Int) (k : Nat) (p : Nat → PD) (m : Nat) (f : Nat → Int) (hm : m ≤ n) (a5 : Int) (hinv : L25a.inv n g j1 j2 k p m f a5) (hN : L25a.run g m f a5 = (.e1 : L25a.O)) : LoopTo Try.prog (loopN Try.f25 0) (L25a.T n g j1 j2 k p m f a5) (L25a.H n g j1 j2 k p m f a5) (Exit.exit 0) (L25a.X n g j1 j2 k p m f (.e1 : L25a.O)) (L25a.XH n g j1 j2 k p m f (.e1 : L25a.O)) := by
  have h_ := L25a.spec n g hn j1 j2 k p m f hm ((((↑m : Int) - a5).toNat) + 1) a5 hinv (Nat.lt_succ_self _)
  unfold L25a.run at hN
  simp only [hN] at h_
  exact h_

noncomputable def r25.v (g : Nat → PD) (m : Nat) (f : Nat → Int) : Bool := (match L25a.run g m f 0 with | .e0 => false | .e1 => true )
theorem r25 (n : Nat) (g : Nat → PD) (hn : n ≤ 9223372036854775807) (j1 : Int) (j2 : Int) (k : Nat) (p : Nat → PD) (m : Nat) (f : Nat → Int) (hm : m ≤ n) (h : AHeap) : Ret Try.prog 25 ([rn n g j1 j2 k p, ivs m f]) h (AV.bool (r25.v g m f)) h := by
  have o0 : n ≤ (9223372036854775807 : Nat) := by first | assumption | omega | (simp_all; done)
  have o1 : m ≤ n := by first | assumption | omega | (simp_all; done)
  have o2 : (0 : Int) ≤ (↑m : Int) ∨ (0 : Int) ≤ (0 : Int) := by first | assumption | omega | (simp_all; done)
  cases h1 : L25a.run g m f 0 with
  | e0 =>
    exact Ret.of_run1 mix [(AV.bool (r25.v g m f))] Try.func25 rfl [.loop (others 36 [1, 2, 5]) (Exit.ret) (L25a.X n g j1 j2 k p m f L25a.O.e0) (L25a.XH n g j1 j2 k p m f L25a.O.e0)] (by simp) (by simp) (kmp (by kernel_rfl) (And.intro (L25a.e0 (n) (g) o0 (j1) (j2) (k) (p) (m) (f) o1 (0) (And.intro (show (0 : Int) ≤ (0 : Int) by first | decide | exact Int.NonNeg.mk _) o2) h1) (And.intro (show (AV.bool false) = ((AV.bool (r25.v g m f))) by first | (simp only [r25.v, h1, cond_true, cond_false]; done) | (try unfold r25.v; try simp only [h1, cond_true, cond_false]; try rfl; done) | rfl) trivial))) h
  | e1 =>
    exact Ret.of_run1 mix [(AV.bool (r25.v g m f))] Try.func25 rfl [.loop (others 36 [1, 2, 5]) (Exit.exit 0) (L25a.X n g j1 j2 k p m f L25a.O.e1) (L25a.XH n g j1 j2 k p m f L25a.O.e1)] (by simp) (by simp) (kmp (by kernel_rfl) (And.intro (L25a.e1 (n) (g) o0 (j1) (j2) (k) (p) (m) (f) o1 (0) (And.intro (show (0 : Int) ≤ (0 : Int) by first | decide | exact Int.NonNeg.mk _) o2) h1) (And.intro (show (AV.bool true) = ((AV.bool (r25.v g m f))) by first | (simp only [r25.v, h1, cond_true, cond_false]; done) | (try unfold r25.v; try simp only [h1, cond_true, cond_false]; try rfl; done) | rfl) trivial))) h

end Go.Proofs.Ytjdakdjgkpfjkaa

/- The inputs of the tolerance's laws. Conditions: none. -/
open Go
namespace Go.Proofs.Ytjdakdjgkpfjkaa
open Go.ChangeShapes Go.WideShapes Go.ChangeAt Go.RowKit
theorem own : ownKnob Try.prog.godebug = none := by kernel_rfl
theorem laidOut : laidOutB Try.prog = true := by kernel_rfl

theorem lf_pair {P : Program} {cs : List AV} (h : LfFits P [.int .i64, .int .i64] cs) : ∃ d : PD, ImpL cs d.av.cells := by
  obtain ⟨a1, _, rfl, _, a2, _, rfl, _, rfl⟩ := h
  exact ⟨⟨a1, a2⟩, .refl _⟩
theorem lf_int {P : Program} {a : AV} (h : LfFits P [.int .i64] [a]) : ∃ n, a = .int .i64 n := by
  obtain ⟨n, _, e, _, rfl⟩ := h
  cases e
  exact ⟨n, rfl⟩
theorem lf_sl {P : Program} {k e sz : Nat} {a : AV} (h : LfFits P [.sl k e sz] [a]) : ∃ n f, a = .sl sz n f ∧ n ≤ maxLen ∧ ∀ i, i < n → Fits P k e (f i).cells := by
  obtain ⟨n, f, _, e, h1, h2, rfl⟩ := h
  cases e
  exact ⟨n, f, rfl, h1, h2⟩
set_option maxRecDepth 100000 in
theorem arg_int {a : AV} (h : FitsV Try.prog 5 3 a) : ∃ n, a = .int .i64 n :=
  lf_int (fitsV_one (by kernel_rfl) (by kernel_rfl : flat Try.prog 5 3 = some [.int .i64]) h)
set_option maxRecDepth 100000 in
theorem arg_pair {a : AV} (h : FitsV Try.prog 5 24 a) : ∃ x y, a = AV.agg [.int .i64 x, .int .i64 y] := by
  obtain ⟨cs, e, h⟩ := fitsV_struct (by kernel_rfl) (by kernel_rfl : flat Try.prog 5 24 = some [.int .i64, .int .i64]) h
  obtain ⟨a1, _, rfl, _, a2, _, rfl, _, rfl⟩ := h
  exact ⟨a1, a2, e⟩
set_option maxRecDepth 100000 in
theorem flat4_3 : flat Try.prog 4 3 = some [.int .i64] := by kernel_rfl
set_option maxRecDepth 100000 in
theorem flat3_24 : flat Try.prog 3 24 = some [.int .i64, .int .i64] := by kernel_rfl
set_option maxRecDepth 100000 in
theorem flat3_63 : flat Try.prog 3 63 = some [.int .i64, .int .i64] := by kernel_rfl
set_option maxRecDepth 100000 in
theorem flat4_63 : flat Try.prog 4 63 = some [.int .i64, .int .i64] := by kernel_rfl
set_option maxRecDepth 100000 in
theorem arg_ints {a : AV} (h : FitsV Try.prog 5 43 a) : ∃ (m : Nat) (f : Nat → Int), m ≤ 9223372036854775807 ∧ Imp a (ivs m f) := by
  obtain ⟨n, f, e, h1, h2⟩ := lf_sl (fitsV_one (by kernel_rfl) (by kernel_rfl : flat Try.prog 5 43 = some [.sl 4 3 1]) h)
  obtain ⟨r, hr⟩ := imp_ints flat4_3 h2
  rw [e]
  exact ⟨n, r, le_max h1, hr⟩
set_option maxRecDepth 100000 in
theorem arg_prs {a : AV} (h : FitsV Try.prog 5 25 a) : ∃ (m : Nat) (f : Nat → PD), m ≤ 9223372036854775807 ∧ Imp a (prs m f) := by
  obtain ⟨n, f, e, h1, h2⟩ := lf_sl (fitsV_one (by kernel_rfl) (by kernel_rfl : flat Try.prog 5 25 = some [.sl 4 63 2]) h)
  obtain ⟨g, hg⟩ := imp_structs (D := PD) PD.av (sz := 2) flat4_63 (fun cs hc => lf_pair hc) h2
  rw [e]
  exact ⟨n, g, le_max h1, hg⟩
set_option maxRecDepth 100000 in
theorem arg_run {a : AV} (h : FitsV Try.prog 5 27 a) : ∃ (n : Nat) (g : Nat → PD) (j1 j2 : Int) (k : Nat) (p : Nat → PD), n ≤ 9223372036854775807 ∧ k ≤ 9223372036854775807 ∧ Imp a (rn n g j1 j2 k p) := by
  obtain ⟨cs, e, h⟩ := fitsV_struct (by kernel_rfl) (by kernel_rfl : flat Try.prog 5 27 = some [.sl 3 24 2, .int .i64, .int .i64, .sl 3 63 2]) h
  obtain ⟨n, f, _, rfl, h1, h2, j1, _, rfl, _, j2, _, rfl, _, k, q, _, rfl, h3, h4, rfl⟩ := h
  obtain ⟨g, hg⟩ := imp_structs (D := PD) PD.av (sz := 2) flat3_24 (fun cs hc => lf_pair hc) h2
  obtain ⟨p, hp⟩ := imp_structs (D := PD) PD.av (sz := 2) flat3_63 (fun cs hc => lf_pair hc) h4
  rw [e]
  exact ⟨n, g, j1, j2, k, p, le_max h1, le_max h3, .agg (.cons hg (.cons (.refl _) (.cons (.refl _) (.cons hp .nil))))⟩
set_option maxRecDepth 100000 in
theorem arg_ints_in {a : AV} (h : FitsV Try.prog 5 43 a) : ∃ (m : Nat) (f : Nat → Int), m ≤ 9223372036854775807 ∧ (∀ i, i < m → -9223372036854775808 ≤ f i ∧ f i ≤ 9223372036854775807) ∧ Imp a (ivs m f) := by
  obtain ⟨n, f, e, h1, h2⟩ := lf_sl (fitsV_one (by kernel_rfl) (by kernel_rfl : flat Try.prog 5 43 = some [.sl 4 3 1]) h)
  have each : ∀ i, ∃ r : Int, i < n → (f i).cells = [.int .i64 r] ∧ (-9223372036854775808 ≤ r ∧ r ≤ 9223372036854775807) := fun i => by
    by_cases hi : i < n
    · obtain ⟨r, _, e1, hw, e2⟩ := flat_fits _ _ _ _ flat4_3 (h2 i hi)
      subst e2
      refine ⟨r, fun _ => ⟨e1, ?_⟩⟩
      simp only [Lit.wf, Bool.and_eq_true, decide_eq_true_eq] at hw
      exact ⟨hw.1, hw.2⟩
    · exact ⟨0, fun h => absurd h hi⟩
  obtain ⟨r, hr⟩ := Classical.axiomOfChoice each
  rw [e]
  exact ⟨n, r, le_max h1, fun i hi => (hr i hi).2, .sl fun i hi => by rw [(hr i hi).1]; exact .refl _⟩
end Go.Proofs.Ytjdakdjgkpfjkaa

/- the tolerance seat's contracts: Joints, Meets. -/
open Go
namespace Go.Proofs.Ytjdakdjgkpfjkaa
set_option linter.unusedSimpArgs false
set_option linter.unusedVariables false
set_option maxHeartbeats 0
set_option maxRecDepth 100000
inductive L22ab.O where
  | e0 (a0 : Nat) (a1 : List Int)
noncomputable def L22ab.T (n : Nat) (g : Nat → PD) (j1 : Int) (j2 : Int) (k : Nat) (p : Nat → PD) (m : Nat) (f : Nat → Int) (al7 : List Int) (a32 : Int) (bv7 : Nat) (bl7 : List Int) (b70 : Int) : List AV := mkT 90 [(1, AV.sl 1 m fun (i : Nat) => AV.int IntKind.i64 (f i)), (2, AV.ptr 0 1 4 0 0), (7, AV.ms 1 bv7 1 0 bl7.length), (10, AV.int IntKind.i64 (r33.v2 n g (rget (r42.v k p) a32.toNat).a (rget (r42.v k p) a32.toNat).b)), (11, AV.int IntKind.i64 (IntKind.i64.wrap ((rget (r42.v k p) a32.toNat).room - r47.v ((rget (r42.v k p) a32.toNat).b.toNat - (rget (r42.v k p) a32.toNat).a.toNat) fun (i : Nat) => f ((rget (r42.v k p) a32.toNat).a.toNat + i)))), (30, AV.sl 3 (r42.v k p).length fun (i : Nat) => AV.agg [AV.int IntKind.i64 (rget (r42.v k p) i).a, AV.int IntKind.i64 (rget (r42.v k p) i).b, AV.int IntKind.i64 (rget (r42.v k p) i).room]), (31, AV.int IntKind.i64 (↑(r42.v k p).length : Int)), (32, AV.int IntKind.i64 a32), (69, AV.int IntKind.i64 (r33.v2 n g (rget (r42.v k p) a32.toNat).a (rget (r42.v k p) a32.toNat).b)), (70, AV.int IntKind.i64 b70)]
noncomputable def L22ab.H (n : Nat) (g : Nat → PD) (j1 : Int) (j2 : Int) (k : Nat) (p : Nat → PD) (m : Nat) (f : Nat → Int) (al7 : List Int) (a32 : Int) (bv7 : Nat) (bl7 : List Int) (b70 : Int) : AHeap := [AObj.var (AV.agg [AV.sl 2 n fun (i : Nat) => AV.agg [AV.int IntKind.i64 (g i).lo, AV.int IntKind.i64 (g i).hi], AV.int IntKind.i64 j1, AV.int IntKind.i64 j2, AV.sl 2 k fun (i : Nat) => AV.agg [AV.int IntKind.i64 (p i).lo, AV.int IntKind.i64 (p i).hi]]), AObj.row 1 bv7 (Col.ints IntKind.i64 bl7), AObj.dead]
def L22ab.inv (n : Nat) (g : Nat → PD) (j1 : Int) (j2 : Int) (k : Nat) (p : Nat → PD) (m : Nat) (f : Nat → Int) (al7 : List Int) (a32 : Int) (bv7 : Nat) (bl7 : List Int) (b70 : Int) : Prop := 0 ≤ b70 ∧ (b70 ≤ r33.v2 n g (rget (r42.v k p) a32.toNat).a (rget (r42.v k p) a32.toNat).b ∨ b70 ≤ 0) ∧ (↑bl7.length : Int) + (↑(r33.v2 n g (rget (r42.v k p) a32.toNat).a (rget (r42.v k p) a32.toNat).b - b70).toNat : Int) ≤ 1000000000
noncomputable def L22ab.mu (n : Nat) (g : Nat → PD) (j1 : Int) (j2 : Int) (k : Nat) (p : Nat → PD) (m : Nat) (f : Nat → Int) (al7 : List Int) (a32 : Int) (bv7 : Nat) (bl7 : List Int) (b70 : Int) : Nat := (r33.v2 n g (rget (r42.v k p) a32.toNat).a (rget (r42.v k p) a32.toNat).b - b70).toNat
noncomputable def L22ab.E : L22ab.O → Exit
  | .e0 a0 a1 => Exit.exit 2
noncomputable def L22ab.X (n : Nat) (g : Nat → PD) (j1 : Int) (j2 : Int) (k : Nat) (p : Nat → PD) (m : Nat) (f : Nat → Int) (al7 : List Int) (a32 : Int) : L22ab.O → List AV
  | .e0 a0 a1 => mkT 90 [(1, (AV.sl 1 m fun (i : Nat) => AV.int IntKind.i64 (f i))), (2, (AV.ptr 0 1 4 0 0)), (7, (AV.ms 1 a0 1 0 (List.length a1))), (30, (AV.sl 3 (r42.v k p).length fun (i : Nat) => AV.agg [AV.int IntKind.i64 (rget (r42.v k p) i).a, AV.int IntKind.i64 (rget (r42.v k p) i).b, AV.int IntKind.i64 (rget (r42.v k p) i).room])), (31, (AV.int IntKind.i64 (↑(r42.v k p).length : Int))), (32, (AV.int IntKind.i64 a32))]
noncomputable def L22ab.XH (n : Nat) (g : Nat → PD) (j1 : Int) (j2 : Int) (k : Nat) (p : Nat → PD) (m : Nat) (f : Nat → Int) (al7 : List Int) (a32 : Int) : L22ab.O → AHeap
  | .e0 a0 a1 => ((AObj.var (AV.agg [AV.sl 2 n fun (i : Nat) => AV.agg [AV.int IntKind.i64 (g i).lo, AV.int IntKind.i64 (g i).hi], AV.int IntKind.i64 j1, AV.int IntKind.i64 j2, AV.sl 2 k fun (i : Nat) => AV.agg [AV.int IntKind.i64 (p i).lo, AV.int IntKind.i64 (p i).hi]])) :: ((AObj.row 1 a0 (Col.ints IntKind.i64 a1)) :: ([AObj.dead])))
noncomputable def L22ab.N (n : Nat) (g : Nat → PD) (k : Nat) (p : Nat → PD) (f : Nat → Int) (a32 : Int) : Nat → Nat → (List Int) → Int → L22ab.O
  | 0, _, _, _ => .e0 default default
  | k_ + 1, bv7, bl7, b70 => (bif decide (b70 < r33.v2 n g (rget (r42.v k p) a32.toNat).a (rget (r42.v k p) a32.toNat).b) then (bif decide (b70 < (IntKind.i64.wrap ((rget (r42.v k p) a32.toNat).room - r47.v ((rget (r42.v k p) a32.toNat).b.toNat - (rget (r42.v k p) a32.toNat).a.toNat) fun (i : Nat) => f ((rget (r42.v k p) a32.toNat).a.toNat + i))).tmod (r33.v2 n g (rget (r42.v k p) a32.toNat).a (rget (r42.v k p) a32.toNat).b)) then (L22ab.N n g k p f a32 k_ (bv7 + 1) (bl7 ++ [IntKind.i64.wrap (IntKind.i64.wrap ((IntKind.i64.wrap ((rget (r42.v k p) a32.toNat).room - r47.v ((rget (r42.v k p) a32.toNat).b.toNat - (rget (r42.v k p) a32.toNat).a.toNat) fun (i : Nat) => f ((rget (r42.v k p) a32.toNat).a.toNat + i))).tdiv (r33.v2 n g (rget (r42.v k p) a32.toNat).a (rget (r42.v k p) a32.toNat).b)) + 1)]) (IntKind.i64.wrap (b70 + 1))) else (L22ab.N n g k p f a32 k_ (bv7 + 1) (bl7 ++ [IntKind.i64.wrap ((IntKind.i64.wrap ((rget (r42.v k p) a32.toNat).room - r47.v ((rget (r42.v k p) a32.toNat).b.toNat - (rget (r42.v k p) a32.toNat).a.toNat) fun (i : Nat) => f ((rget (r42.v k p) a32.toNat).a.toNat + i))).tdiv (r33.v2 n g (rget (r42.v k p) a32.toNat).a (rget (r42.v k p) a32.toNat).b))]) (IntKind.i64.wrap (b70 + 1)))) else (.e0 (bv7) (bl7)))
noncomputable def L22ab.run (n : Nat) (g : Nat → PD) (k : Nat) (p : Nat → PD) (f : Nat → Int) (a32 : Int) (bv7 : Nat) (bl7 : List Int) (b70 : Int) : L22ab.O := L22ab.N n g k p f a32 (((r33.v2 n g (rget (r42.v k p) a32.toNat).a (rget (r42.v k p) a32.toNat).b - b70).toNat) + 1) bv7 bl7 b70
def L22ab.Next (n : Nat) (g : Nat → PD) (j1 : Int) (j2 : Int) (k : Nat) (p : Nat → PD) (m : Nat) (f : Nat → Int) (al7 : List Int) (a32 : Int) (k_ : Nat) (z_ : Nat × (List Int) × Int) (T_ : List AV) (h_ : AHeap) : Prop := LNextP (fun (z_ : Nat × (List Int) × Int) => L22ab.T n g j1 j2 k p m f al7 a32 z_.1 z_.2.1 z_.2.2) (fun (z_ : Nat × (List Int) × Int) => L22ab.H n g j1 j2 k p m f al7 a32 z_.1 z_.2.1 z_.2.2) (fun (z_ : Nat × (List Int) × Int) => L22ab.inv n g j1 j2 k p m f al7 a32 z_.1 z_.2.1 z_.2.2) (fun (z_ : Nat × (List Int) × Int) => L22ab.mu n g j1 j2 k p m f al7 a32 z_.1 z_.2.1 z_.2.2) (fun (k_ : Nat) (z_ : Nat × (List Int) × Int) => L22ab.N n g k p f a32 k_ z_.1 z_.2.1 z_.2.2) k_ z_ T_ h_
def L22ab.End (n : Nat) (g : Nat → PD) (j1 : Int) (j2 : Int) (k : Nat) (p : Nat → PD) (m : Nat) (f : Nat → Int) (al7 : List Int) (a32 : Int) (k_ : Nat) (z_ : Nat × (List Int) × Int) (e_ : Exit) (T_ : List AV) (h_ : AHeap) : Prop := LEndP (fun (z_ : Nat × (List Int) × Int) => L22ab.H n g j1 j2 k p m f al7 a32 z_.1 z_.2.1 z_.2.2) (fun (k_ : Nat) (z_ : Nat × (List Int) × Int) => L22ab.N n g k p f a32 k_ z_.1 z_.2.1 z_.2.2) L22ab.E (L22ab.X n g j1 j2 k p m f al7 a32) (L22ab.XH n g j1 j2 k p m f al7 a32) k_ z_ e_ T_ h_
theorem L22ab.nx (n : Nat) (g : Nat → PD) (j1 : Int) (j2 : Int) (k : Nat) (p : Nat → PD) (m : Nat) (f : Nat → Int) (al7 : List Int) (a32 : Int) {k_ : Nat} {z_ : Nat × (List Int) × Int} {h_ : AHeap} (s_ : Nat × (List Int) × Int) (h1 : L22ab.inv n g j1 j2 k p m f al7 a32 s_.1 s_.2.1 s_.2.2) (h2 : L22ab.mu n g j1 j2 k p m f al7 a32 s_.1 s_.2.1 s_.2.2 < L22ab.mu n g j1 j2 k p m f al7 a32 z_.1 z_.2.1 z_.2.2) (h3 : L22ab.N n g k p f a32 k_ s_.1 s_.2.1 s_.2.2 = L22ab.N n g k p f a32 (k_ + 1) z_.1 z_.2.1 z_.2.2) (h4 : PopOk (L22ab.H n g j1 j2 k p m f al7 a32 z_.1 z_.2.1 z_.2.2) h_ (L22ab.T n g j1 j2 k p m f al7 a32 s_.1 s_.2.1 s_.2.2) (L22ab.H n g j1 j2 k p m f al7 a32 s_.1 s_.2.1 s_.2.2)) : LNextP (fun (z_ : Nat × (List Int) × Int) => L22ab.T n g j1 j2 k p m f al7 a32 z_.1 z_.2.1 z_.2.2) (fun (z_ : Nat × (List Int) × Int) => L22ab.H n g j1 j2 k p m f al7 a32 z_.1 z_.2.1 z_.2.2) (fun (z_ : Nat × (List Int) × Int) => L22ab.inv n g j1 j2 k p m f al7 a32 z_.1 z_.2.1 z_.2.2) (fun (z_ : Nat × (List Int) × Int) => L22ab.mu n g j1 j2 k p m f al7 a32 z_.1 z_.2.1 z_.2.2) (fun (k_ : Nat) (z_ : Nat × (List Int) × Int) => L22ab.N n g k p f a32 k_ z_.1 z_.2.1 z_.2.2) k_ z_ (L22ab.T n g j1 j2 k p m f al7 a32 s_.1 s_.2.1 s_.2.2) h_ := LNextP.mk (Tm := (fun (z_ : Nat × (List Int) × Int) => L22ab.T n g j1 j2 k p m f al7 a32 z_.1 z_.2.1 z_.2.2)) (Hp := (fun (z_ : Nat × (List Int) × Int) => L22ab.H n g j1 j2 k p m f al7 a32 z_.1 z_.2.1 z_.2.2)) (inv := (fun (z_ : Nat × (List Int) × Int) => L22ab.inv n g j1 j2 k p m f al7 a32 z_.1 z_.2.1 z_.2.2)) (mu := (fun (z_ : Nat × (List Int) × Int) => L22ab.mu n g j1 j2 k p m f al7 a32 z_.1 z_.2.1 z_.2.2)) (l := (fun (k_ : Nat) (z_ : Nat × (List Int) × Int) => L22ab.N n g k p f a32 k_ z_.1 z_.2.1 z_.2.2)) s_ h1 h2 h3 h4
theorem L22ab.en (n : Nat) (g : Nat → PD) (j1 : Int) (j2 : Int) (k : Nat) (p : Nat → PD) (m : Nat) (f : Nat → Int) (al7 : List Int) (a32 : Int) {k_ : Nat} {z_ : Nat × (List Int) × Int} {h_ : AHeap} (o_ : L22ab.O) (h3 : L22ab.N n g k p f a32 (k_ + 1) z_.1 z_.2.1 z_.2.2 = o_) (h4 : PopOk (L22ab.H n g j1 j2 k p m f al7 a32 z_.1 z_.2.1 z_.2.2) h_ (L22ab.X n g j1 j2 k p m f al7 a32 o_) (L22ab.XH n g j1 j2 k p m f al7 a32 o_)) : LEndP (fun (z_ : Nat × (List Int) × Int) => L22ab.H n g j1 j2 k p m f al7 a32 z_.1 z_.2.1 z_.2.2) (fun (k_ : Nat) (z_ : Nat × (List Int) × Int) => L22ab.N n g k p f a32 k_ z_.1 z_.2.1 z_.2.2) L22ab.E (L22ab.X n g j1 j2 k p m f al7 a32) (L22ab.XH n g j1 j2 k p m f al7 a32) k_ z_ (L22ab.E o_) (L22ab.X n g j1 j2 k p m f al7 a32 o_) h_ := LEndP.mk (Hp := (fun (z_ : Nat × (List Int) × Int) => L22ab.H n g j1 j2 k p m f al7 a32 z_.1 z_.2.1 z_.2.2)) (l := (fun (k_ : Nat) (z_ : Nat × (List Int) × Int) => L22ab.N n g k p f a32 k_ z_.1 z_.2.1 z_.2.2)) (oE := L22ab.E) (oT := L22ab.X n g j1 j2 k p m f al7 a32) (oH := L22ab.XH n g j1 j2 k p m f al7 a32) o_ h3 h4
theorem L22ab.spec (n : Nat) (g : Nat → PD) (hn : n ≤ 9223372036854775807) (j1 : Int) (j2 : Int) (k : Nat) (p : Nat → PD) (hk : k ≤ 30) (m : Nat) (f : Nat → Int) (hm : m ≤ 9223372036854775807) (k0_1 : (r16.v n g j1 j2 k p == 0) = true) (p0_1 : r16.v n g j1 j2 k p = 0) (k0_2 : ((↑m : Int) == (↑n : Int)) = true) (p0_2 : (↑m : Int) = (↑n : Int)) (k0_3 : r45a.v g m f = true) (al7 : List Int) (a32 : Int) (i22a_0 : 0 ≤ a32) (i22a_1 : a32 ≤ (↑(r42.v k p).length : Int) ∨ a32 ≤ 0) (i22a_2 : (↑al7.length : Int) ≤ 1000000 * (a32 - 0)) (k1_1 : decide (a32 < (↑(r42.v k p).length : Int)) = true) (p1_1 : a32 < (↑(r42.v k p).length : Int)) (k_ : Nat) (z_ : Nat × (List Int) × Int) (hi_ : L22ab.inv n g j1 j2 k p m f al7 a32 z_.1 z_.2.1 z_.2.2) (hm_ : L22ab.mu n g j1 j2 k p m f al7 a32 z_.1 z_.2.1 z_.2.2 < k_) : LoopTo Try.prog (loopN Try.f22 1) (L22ab.T n g j1 j2 k p m f al7 a32 z_.1 z_.2.1 z_.2.2) (L22ab.H n g j1 j2 k p m f al7 a32 z_.1 z_.2.1 z_.2.2) (L22ab.E (L22ab.N n g k p f a32 k_ z_.1 z_.2.1 z_.2.2)) (L22ab.X n g j1 j2 k p m f al7 a32 (L22ab.N n g k p f a32 k_ z_.1 z_.2.1 z_.2.2)) (L22ab.XH n g j1 j2 k p m f al7 a32 (L22ab.N n g k p f a32 k_ z_.1 z_.2.1 z_.2.2)) := by
  refine LoopTo.fuelP mix (fun (z_ : Nat × (List Int) × Int) => L22ab.T n g j1 j2 k p m f al7 a32 z_.1 z_.2.1 z_.2.2) (fun (z_ : Nat × (List Int) × Int) => L22ab.H n g j1 j2 k p m f al7 a32 z_.1 z_.2.1 z_.2.2) (fun (z_ : Nat × (List Int) × Int) => L22ab.inv n g j1 j2 k p m f al7 a32 z_.1 z_.2.1 z_.2.2) (fun (z_ : Nat × (List Int) × Int) => L22ab.mu n g j1 j2 k p m f al7 a32 z_.1 z_.2.1 z_.2.2) (fun (k_ : Nat) (z_ : Nat × (List Int) × Int) => L22ab.N n g k p f a32 k_ z_.1 z_.2.1 z_.2.2) L22ab.E (L22ab.X n g j1 j2 k p m f al7 a32) (L22ab.XH n g j1 j2 k p m f al7 a32) (others 90 [1, 2, 7, 10, 11, 30, 31, 32, 69, 70]) (others 90 [4, 5]) (others 90 [1, 2, 7, 30, 31, 32]) ?_ k_ z_ hi_ hm_
  clear hm_ hi_ z_ k_
  intro k_ z_ hinv hmu
  obtain ⟨bv7, bl7, b70⟩ := z_
  have hinv : 0 ≤ b70 ∧ (b70 ≤ r33.v2 n g (rget (r42.v k p) a32.toNat).a (rget (r42.v k p) a32.toNat).b ∨ b70 ≤ 0) ∧ (↑bl7.length : Int) + (↑(r33.v2 n g (rget (r42.v k p) a32.toNat).a (rget (r42.v k p) a32.toNat).b - b70).toNat : Int) ≤ 1000000000 := hinv
  have hmu : ((r33.v2 n g (rget (r42.v k p) a32.toNat).a (rget (r42.v k p) a32.toNat).b - b70).toNat) < k_ + 1 := hmu
  cases h1 : decide (b70 < r33.v2 n g (rget (r42.v k p) a32.toNat).a (rget (r42.v k p) a32.toNat).b) with
  | true =>
    have h1p := of_decide_eq_true h1
    try have := bd_parts (by first | assumption | omega) (by first | assumption | omega)
    try have := bd22 (by first | assumption | omega) (by first | assumption | omega) (by first | assumption | omega) (by first | assumption | omega) (by first | assumption | omega)
    try have := bd42 (by first | assumption | omega) (by first | assumption | omega) (by first | assumption | omega)
    try have := bd_m2 (by first | assumption | omega) (by first | assumption | omega)
    have o0 : r33.v2 n g (rget (r42.v k p) a32.toNat).a (rget (r42.v k p) a32.toNat).b = (0 : Int) → False := by first | assumption | omega | (simp_all; done)
    cases h2 : decide (b70 < (IntKind.i64.wrap ((rget (r42.v k p) a32.toNat).room - r47.v ((rget (r42.v k p) a32.toNat).b.toNat - (rget (r42.v k p) a32.toNat).a.toNat) fun (i : Nat) => f ((rget (r42.v k p) a32.toNat).a.toNat + i))).tmod (r33.v2 n g (rget (r42.v k p) a32.toNat).a (rget (r42.v k p) a32.toNat).b)) with
    | true =>
      have h2p := of_decide_eq_true h2
      try have := bd_parts (by first | assumption | omega) (by first | assumption | omega)
      try have := bd22 (by first | assumption | omega) (by first | assumption | omega) (by first | assumption | omega) (by first | assumption | omega) (by first | assumption | omega)
      try have := bd42 (by first | assumption | omega) (by first | assumption | omega) (by first | assumption | omega)
      try have := bd_m2 (by first | assumption | omega) (by first | assumption | omega)
      have o1 : (bl7.length + (1 : Nat)) * (8 : Nat) ≤ (140737488355328 : Nat) := by first | assumption | omega | (simp only [List.length_append, List.length_cons, List.length_nil, List.length_map]; omega) | (simp_all; done)
      have o2 : bl7.length = (Col.ints IntKind.i64 bl7).len := by first | assumption | omega | (simp only [List.length_append, List.length_cons, List.length_nil, List.length_map]; omega) | rfl | (exact Nat.le_refl _) | (simp [Col.len]; done) | (simp_all; done)
      try have := IntWalk.i64_in (b70 + 1) (by omega)
      have o3 : (0 : Int) ≤ IntKind.i64.wrap (b70 + (1 : Int)) := by first | assumption | omega | (simp_all; done)
      have o4 : IntKind.i64.wrap (b70 + (1 : Int)) ≤ r33.v2 n g (rget (r42.v k p) a32.toNat).a (rget (r42.v k p) a32.toNat).b ∨ IntKind.i64.wrap (b70 + (1 : Int)) ≤ (0 : Int) := by first | assumption | omega | (simp_all; done)
      try have := IntWalk.i64_in ((rget (r42.v k p) a32.toNat).room - r47.v ((rget (r42.v k p) a32.toNat).b.toNat - (rget (r42.v k p) a32.toNat).a.toNat) fun (i : Nat) => f ((rget (r42.v k p) a32.toNat).a.toNat + i)) (by omega)
      try have := IntWalk.i64_in ((IntKind.i64.wrap ((rget (r42.v k p) a32.toNat).room - r47.v ((rget (r42.v k p) a32.toNat).b.toNat - (rget (r42.v k p) a32.toNat).a.toNat) fun (i : Nat) => f ((rget (r42.v k p) a32.toNat).a.toNat + i))).tdiv (r33.v2 n g (rget (r42.v k p) a32.toNat).a (rget (r42.v k p) a32.toNat).b)) (by omega)
      try have := IntWalk.i64_in (IntKind.i64.wrap ((IntKind.i64.wrap ((rget (r42.v k p) a32.toNat).room - r47.v ((rget (r42.v k p) a32.toNat).b.toNat - (rget (r42.v k p) a32.toNat).a.toNat) fun (i : Nat) => f ((rget (r42.v k p) a32.toNat).a.toNat + i))).tdiv (r33.v2 n g (rget (r42.v k p) a32.toNat).a (rget (r42.v k p) a32.toNat).b)) + 1) (by omega)
      have o5 : (↑(bl7 ++ [IntKind.i64.wrap (IntKind.i64.wrap ((IntKind.i64.wrap ((rget (r42.v k p) a32.toNat).room - r47.v ((rget (r42.v k p) a32.toNat).b.toNat - (rget (r42.v k p) a32.toNat).a.toNat) fun (i : Nat) => f ((rget (r42.v k p) a32.toNat).a.toNat + i))).tdiv (r33.v2 n g (rget (r42.v k p) a32.toNat).a (rget (r42.v k p) a32.toNat).b)) + (1 : Int))]).length : Int) + (↑(r33.v2 n g (rget (r42.v k p) a32.toNat).a (rget (r42.v k p) a32.toNat).b - IntKind.i64.wrap (b70 + (1 : Int))).toNat : Int) ≤ (1000000000 : Int) := by first | assumption | omega | (simp only [List.length_append, List.length_cons, List.length_nil, List.length_map]; omega) | (simp_all; done)
      have o6 : (r33.v2 n g (rget (r42.v k p) a32.toNat).a (rget (r42.v k p) a32.toNat).b - IntKind.i64.wrap (b70 + (1 : Int))).toNat < (r33.v2 n g (rget (r42.v k p) a32.toNat).a (rget (r42.v k p) a32.toNat).b - b70).toNat := by first | assumption | omega | (simp_all; done)
      exact ⟨[.b true, .b true, .app .one false], kmp (by kernel_rfl) (And.intro h1 (And.intro o0 (And.intro o0 (And.intro h2 (And.intro (And.intro (show (1 : Nat) = (1 : Nat) by first | decide | exact Int.NonNeg.mk _) (And.intro (show AppMode.one.needs 1 fun (a : Nat) => (Col.ofList [AV.int IntKind.i64 (IntKind.i64.wrap (IntKind.i64.wrap ((IntKind.i64.wrap ((rget (r42.v k p) a32.toNat).room - r47.v ((rget (r42.v k p) a32.toNat).b.toNat - (rget (r42.v k p) a32.toNat).a.toNat) fun (i : Nat) => f ((rget (r42.v k p) a32.toNat).a.toNat + i))).tdiv (r33.v2 n g (rget (r42.v k p) a32.toNat).a (rget (r42.v k p) a32.toNat).b)) + 1))]).get a by first | exact ⟨rfl, rfl⟩ | simp [AppMode.needs]) (And.intro o1 (And.intro (rfl : bv7 = bv7) (And.intro (show (0 : Nat) = (0 : Nat) by first | decide | exact Int.NonNeg.mk _) o2))))) (L22ab.nx n g j1 j2 k p m f al7 a32 (k_ := k_) (z_ := (bv7, bl7, b70)) ((bv7 + 1, bl7 ++ [IntKind.i64.wrap (IntKind.i64.wrap ((IntKind.i64.wrap ((rget (r42.v k p) a32.toNat).room - r47.v ((rget (r42.v k p) a32.toNat).b.toNat - (rget (r42.v k p) a32.toNat).a.toNat) fun (i : Nat) => f ((rget (r42.v k p) a32.toNat).a.toNat + i))).tdiv (r33.v2 n g (rget (r42.v k p) a32.toNat).a (rget (r42.v k p) a32.toNat).b)) + 1)], IntKind.i64.wrap (b70 + 1))) (And.intro o3 (And.intro o4 o5)) o6 (by first | (simp only [L22ab.N, h1, h2, cond_true, cond_false]; done) | (try unfold L22ab.N; try simp only [h1, cond_true, cond_false]; try simp only [h2, cond_true, cond_false]; try rfl; done)) PopOk.same))))))⟩
    | false =>
      have h2p := of_decide_eq_false h2
      try have := bd_parts (by first | assumption | omega) (by first | assumption | omega)
      try have := bd22 (by first | assumption | omega) (by first | assumption | omega) (by first | assumption | omega) (by first | assumption | omega) (by first | assumption | omega)
      try have := bd42 (by first | assumption | omega) (by first | assumption | omega) (by first | assumption | omega)
      try have := bd_m2 (by first | assumption | omega) (by first | assumption | omega)
      have o1 : (bl7.length + (1 : Nat)) * (8 : Nat) ≤ (140737488355328 : Nat) := by first | assumption | omega | (simp only [List.length_append, List.length_cons, List.length_nil, List.length_map]; omega) | (simp_all; done)
      have o2 : bl7.length = (Col.ints IntKind.i64 bl7).len := by first | assumption | omega | (simp only [List.length_append, List.length_cons, List.length_nil, List.length_map]; omega) | rfl | (exact Nat.le_refl _) | (simp [Col.len]; done) | (simp_all; done)
      try have := IntWalk.i64_in (b70 + 1) (by omega)
      have o3 : (0 : Int) ≤ IntKind.i64.wrap (b70 + (1 : Int)) := by first | assumption | omega | (simp_all; done)
      have o4 : IntKind.i64.wrap (b70 + (1 : Int)) ≤ r33.v2 n g (rget (r42.v k p) a32.toNat).a (rget (r42.v k p) a32.toNat).b ∨ IntKind.i64.wrap (b70 + (1 : Int)) ≤ (0 : Int) := by first | assumption | omega | (simp_all; done)
      try have := IntWalk.i64_in ((rget (r42.v k p) a32.toNat).room - r47.v ((rget (r42.v k p) a32.toNat).b.toNat - (rget (r42.v k p) a32.toNat).a.toNat) fun (i : Nat) => f ((rget (r42.v k p) a32.toNat).a.toNat + i)) (by omega)
      try have := IntWalk.i64_in ((IntKind.i64.wrap ((rget (r42.v k p) a32.toNat).room - r47.v ((rget (r42.v k p) a32.toNat).b.toNat - (rget (r42.v k p) a32.toNat).a.toNat) fun (i : Nat) => f ((rget (r42.v k p) a32.toNat).a.toNat + i))).tdiv (r33.v2 n g (rget (r42.v k p) a32.toNat).a (rget (r42.v k p) a32.toNat).b)) (by omega)
      have o7 : (↑(bl7 ++ [IntKind.i64.wrap ((IntKind.i64.wrap ((rget (r42.v k p) a32.toNat).room - r47.v ((rget (r42.v k p) a32.toNat).b.toNat - (rget (r42.v k p) a32.toNat).a.toNat) fun (i : Nat) => f ((rget (r42.v k p) a32.toNat).a.toNat + i))).tdiv (r33.v2 n g (rget (r42.v k p) a32.toNat).a (rget (r42.v k p) a32.toNat).b))]).length : Int) + (↑(r33.v2 n g (rget (r42.v k p) a32.toNat).a (rget (r42.v k p) a32.toNat).b - IntKind.i64.wrap (b70 + (1 : Int))).toNat : Int) ≤ (1000000000 : Int) := by first | assumption | omega | (simp only [List.length_append, List.length_cons, List.length_nil, List.length_map]; omega) | (simp_all; done)
      have o6 : (r33.v2 n g (rget (r42.v k p) a32.toNat).a (rget (r42.v k p) a32.toNat).b - IntKind.i64.wrap (b70 + (1 : Int))).toNat < (r33.v2 n g (rget (r42.v k p) a32.toNat).a (rget (r42.v k p) a32.toNat).b - b70).toNat := by first | assumption | omega | (simp_all; done)
      exact ⟨[.b true, .b false, .app .one false], kmp (by kernel_rfl) (And.intro h1 (And.intro o0 (And.intro o0 (And.intro h2 (And.intro (And.intro (show (1 : Nat) = (1 : Nat) by first | decide | exact Int.NonNeg.mk _) (And.intro (show AppMode.one.needs 1 fun (a : Nat) => (Col.ofList [AV.int IntKind.i64 (IntKind.i64.wrap ((IntKind.i64.wrap ((rget (r42.v k p) a32.toNat).room - r47.v ((rget (r42.v k p) a32.toNat).b.toNat - (rget (r42.v k p) a32.toNat).a.toNat) fun (i : Nat) => f ((rget (r42.v k p) a32.toNat).a.toNat + i))).tdiv (r33.v2 n g (rget (r42.v k p) a32.toNat).a (rget (r42.v k p) a32.toNat).b)))]).get a by first | exact ⟨rfl, rfl⟩ | simp [AppMode.needs]) (And.intro o1 (And.intro (rfl : bv7 = bv7) (And.intro (show (0 : Nat) = (0 : Nat) by first | decide | exact Int.NonNeg.mk _) o2))))) (L22ab.nx n g j1 j2 k p m f al7 a32 (k_ := k_) (z_ := (bv7, bl7, b70)) ((bv7 + 1, bl7 ++ [IntKind.i64.wrap ((IntKind.i64.wrap ((rget (r42.v k p) a32.toNat).room - r47.v ((rget (r42.v k p) a32.toNat).b.toNat - (rget (r42.v k p) a32.toNat).a.toNat) fun (i : Nat) => f ((rget (r42.v k p) a32.toNat).a.toNat + i))).tdiv (r33.v2 n g (rget (r42.v k p) a32.toNat).a (rget (r42.v k p) a32.toNat).b))], IntKind.i64.wrap (b70 + 1))) (And.intro o3 (And.intro o4 o7)) o6 (by first | (simp only [L22ab.N, h1, h2, cond_true, cond_false]; done) | (try unfold L22ab.N; try simp only [h1, cond_true, cond_false]; try simp only [h2, cond_true, cond_false]; try rfl; done)) PopOk.same))))))⟩
  | false =>
    have h1p := of_decide_eq_false h1
    exact ⟨[.b false], kmp (by kernel_rfl) (And.intro h1 (L22ab.en n g j1 j2 k p m f al7 a32 (k_ := k_) (z_ := (bv7, bl7, b70)) (.e0 (bv7) (bl7) : L22ab.O) (by first | (simp only [L22ab.N, h1, cond_true, cond_false]; done) | (try unfold L22ab.N; try simp only [h1, cond_true, cond_false]; try rfl; done)) PopOk.same))⟩
theorem L22ab.e0 (n : Nat) (g : Nat → PD) (hn : n ≤ 9223372036854775807) (j1 : Int) (j2 : Int) (k : Nat) (p : Nat → PD) (hk : k ≤ 30) (m : Nat) (f : Nat → Int) (hm : m ≤ 9223372036854775807) (k0_1 : (r16.v n g j1 j2 k p == 0) = true) (p0_1 : r16.v n g j1 j2 k p = 0) (k0_2 : ((↑m : Int) == (↑n : Int)) = true) (p0_2 : (↑m : Int) = (↑n : Int)) (k0_3 : r45a.v g m f = true) (al7 : List Int) (a32 : Int) (i22a_0 : 0 ≤ a32) (i22a_1 : a32 ≤ (↑(r42.v k p).length : Int) ∨ a32 ≤ 0) (i22a_2 : (↑al7.length : Int) ≤ 1000000 * (a32 - 0)) (k1_1 : decide (a32 < (↑(r42.v k p).length : Int)) = true) (p1_1 : a32 < (↑(r42.v k p).length : Int)) (bv7 : Nat) (bl7 : List Int) (b70 : Int) (hinv : L22ab.inv n g j1 j2 k p m f al7 a32 bv7 bl7 b70) (a0 : Nat) (a1 : List Int) (hN : L22ab.run n g k p f a32 bv7 bl7 b70 = (.e0 a0 a1 : L22ab.O)) : LoopTo Try.prog (loopN Try.f22 1) (L22ab.T n g j1 j2 k p m f al7 a32 bv7 bl7 b70) (L22ab.H n g j1 j2 k p m f al7 a32 bv7 bl7 b70) (Exit.exit 2) (L22ab.X n g j1 j2 k p m f al7 a32 (.e0 a0 a1 : L22ab.O)) (L22ab.XH n g j1 j2 k p m f al7 a32 (.e0 a0 a1 : L22ab.O)) := by
  have h_ := L22ab.spec n g hn j1 j2 k p hk m f hm k0_1 p0_1 k0_2 p0_2 k0_3 al7 a32 i22a_0 i22a_1 i22a_2 k1_1 p1_1 (((r33.v2 n g (rget (r42.v k p) a32.toNat).a (rget (r42.v k p) a32.toNat).b - b70).toNat) + 1) (bv7, bl7, b70) hinv (Nat.lt_succ_self _)
  unfold L22ab.run at hN
  simp only [hN] at h_
  exact h_
theorem L22ab.len0_1 (n : Nat) (g : Nat → PD) (k : Nat) (p : Nat → PD) (f : Nat → Int) (a32 : Int) : ∀ (m_ : Nat) (bv7 : Nat) (bl7 : List Int) (b70 : Int) (a0_ : Nat) (a1_ : List Int), L22ab.N n g k p f a32 m_ bv7 bl7 b70 = (.e0 a0_ a1_ : L22ab.O) → (a1_).length ≤ (bl7).length + m_ := by
  intro m_
  induction m_ with
  | zero =>
    intro bv7 bl7 b70 a0_ a1_ h_
    simp only [L22ab.N] at h_
    cases h_
    exact Nat.zero_le _
  | succ m_ ih_ =>
    intro bv7 bl7 b70 a0_ a1_ h_
    cases h1 : decide (b70 < r33.v2 n g (rget (r42.v k p) a32.toNat).a (rget (r42.v k p) a32.toNat).b) with
    | true =>
      have h1p := of_decide_eq_true h1
      cases h2 : decide (b70 < (IntKind.i64.wrap ((rget (r42.v k p) a32.toNat).room - r47.v ((rget (r42.v k p) a32.toNat).b.toNat - (rget (r42.v k p) a32.toNat).a.toNat) fun (i : Nat) => f ((rget (r42.v k p) a32.toNat).a.toNat + i))).tmod (r33.v2 n g (rget (r42.v k p) a32.toNat).a (rget (r42.v k p) a32.toNat).b)) with
      | true =>
        have h2p := of_decide_eq_true h2
        (simp only [L22ab.N, h1, h2, cond_true, cond_false] at h_; first | (have := ih_ _ _ _ _ _ h_; simp only [List.length_append, List.length_cons, List.length_nil] at this; omega) | (cases h_; done) | (cases h_; omega))
      | false =>
        have h2p := of_decide_eq_false h2
        (simp only [L22ab.N, h1, h2, cond_true, cond_false] at h_; first | (have := ih_ _ _ _ _ _ h_; simp only [List.length_append, List.length_cons, List.length_nil] at this; omega) | (cases h_; done) | (cases h_; omega))
    | false =>
      have h1p := of_decide_eq_false h1
      (simp only [L22ab.N, h1, cond_true, cond_false] at h_; first | (have := ih_ _ _ _ _ _ h_; simp only [List.length_append, List.length_cons, List.length_nil] at this; omega) | (cases h_; done) | (cases h_; omega))
theorem L22ab.lenR0_1 (n : Nat) (g : Nat → PD) (k : Nat) (p : Nat → PD) (f : Nat → Int) (a32 : Int) {bv7 : Nat} {bl7 : List Int} {b70 : Int} {a0_ : Nat} {a1_ : List Int} (h_ : L22ab.run n g k p f a32 bv7 bl7 b70 = (.e0 a0_ a1_ : L22ab.O)) : (a1_).length ≤ (bl7).length + (((r33.v2 n g (rget (r42.v k p) a32.toNat).a (rget (r42.v k p) a32.toNat).b - b70).toNat) + 1) := L22ab.len0_1 n g k p f a32 _ bv7 bl7 b70 a0_ a1_ h_

inductive L22a.O where
  | e0 (a0 : Nat) (a1 : List Int)
  | e1 (a0 : Nat) (a1 : List Int)
noncomputable def L22a.T (n : Nat) (g : Nat → PD) (j1 : Int) (j2 : Int) (k : Nat) (p : Nat → PD) (m : Nat) (f : Nat → Int) (av7 : Nat) (al7 : List Int) (a32 : Int) : List AV := mkT 90 [(1, AV.sl 1 m fun (i : Nat) => AV.int IntKind.i64 (f i)), (2, AV.ptr 0 1 4 0 0), (7, AV.ms 1 av7 1 0 al7.length), (30, AV.sl 3 (r42.v k p).length fun (i : Nat) => AV.agg [AV.int IntKind.i64 (rget (r42.v k p) i).a, AV.int IntKind.i64 (rget (r42.v k p) i).b, AV.int IntKind.i64 (rget (r42.v k p) i).room]), (31, AV.int IntKind.i64 (↑(r42.v k p).length : Int)), (32, AV.int IntKind.i64 a32)]
noncomputable def L22a.H (n : Nat) (g : Nat → PD) (j1 : Int) (j2 : Int) (k : Nat) (p : Nat → PD) (m : Nat) (f : Nat → Int) (av7 : Nat) (al7 : List Int) (a32 : Int) : AHeap := [AObj.var (AV.agg [AV.sl 2 n fun (i : Nat) => AV.agg [AV.int IntKind.i64 (g i).lo, AV.int IntKind.i64 (g i).hi], AV.int IntKind.i64 j1, AV.int IntKind.i64 j2, AV.sl 2 k fun (i : Nat) => AV.agg [AV.int IntKind.i64 (p i).lo, AV.int IntKind.i64 (p i).hi]]), AObj.row 1 av7 (Col.ints IntKind.i64 al7)]
def L22a.inv (n : Nat) (g : Nat → PD) (j1 : Int) (j2 : Int) (k : Nat) (p : Nat → PD) (m : Nat) (f : Nat → Int) (av7 : Nat) (al7 : List Int) (a32 : Int) : Prop := 0 ≤ a32 ∧ (a32 ≤ (↑(r42.v k p).length : Int) ∨ a32 ≤ 0) ∧ (↑al7.length : Int) ≤ 1000000 * (a32 - 0)
noncomputable def L22a.mu (n : Nat) (g : Nat → PD) (j1 : Int) (j2 : Int) (k : Nat) (p : Nat → PD) (m : Nat) (f : Nat → Int) (av7 : Nat) (al7 : List Int) (a32 : Int) : Nat := ((↑(r42.v k p).length : Int) - a32).toNat
noncomputable def L22a.E : L22a.O → Exit
  | .e0 a0 a1 => Exit.ret
  | .e1 a0 a1 => Exit.exit 0
noncomputable def L22a.X (n : Nat) (g : Nat → PD) (j1 : Int) (j2 : Int) (k : Nat) (p : Nat → PD) (m : Nat) (f : Nat → Int) : L22a.O → List AV
  | .e0 a0 a1 => mkT 90 [(4, (AV.snil)), (5, (AV.int IntKind.i64 10))]
  | .e1 a0 a1 => mkT 90 [(7, (AV.ms 1 a0 1 0 (List.length a1)))]
noncomputable def L22a.XH (n : Nat) (g : Nat → PD) (j1 : Int) (j2 : Int) (k : Nat) (p : Nat → PD) (m : Nat) (f : Nat → Int) : L22a.O → AHeap
  | .e0 a0 a1 => ((AObj.var (AV.agg [AV.sl 2 n fun (i : Nat) => AV.agg [AV.int IntKind.i64 (g i).lo, AV.int IntKind.i64 (g i).hi], AV.int IntKind.i64 j1, AV.int IntKind.i64 j2, AV.sl 2 k fun (i : Nat) => AV.agg [AV.int IntKind.i64 (p i).lo, AV.int IntKind.i64 (p i).hi]])) :: ((AObj.row 1 a0 (Col.ints IntKind.i64 a1)) :: ([])))
  | .e1 a0 a1 => ((AObj.var (AV.agg [AV.sl 2 n fun (i : Nat) => AV.agg [AV.int IntKind.i64 (g i).lo, AV.int IntKind.i64 (g i).hi], AV.int IntKind.i64 j1, AV.int IntKind.i64 j2, AV.sl 2 k fun (i : Nat) => AV.agg [AV.int IntKind.i64 (p i).lo, AV.int IntKind.i64 (p i).hi]])) :: ((AObj.row 1 a0 (Col.ints IntKind.i64 a1)) :: ([])))
noncomputable def L22a.N (n : Nat) (g : Nat → PD) (j1 : Int) (j2 : Int) (k : Nat) (p : Nat → PD) (f : Nat → Int) : Nat → Nat → (List Int) → Int → L22a.O
  | 0, _, _, _ => .e0 default default
  | k_ + 1, av7, al7, a32 => (bif decide (a32 < (↑(r42.v k p).length : Int)) then (bif decide (IntKind.i64.wrap ((rget (r42.v k p) a32.toNat).room - r47.v ((rget (r42.v k p) a32.toNat).b.toNat - (rget (r42.v k p) a32.toNat).a.toNat) fun (i : Nat) => f ((rget (r42.v k p) a32.toNat).a.toNat + i)) < IntKind.i64.wrap (r33.v2 n g (rget (r42.v k p) a32.toNat).a (rget (r42.v k p) a32.toNat).b * j1)) then (.e0 (av7) (al7)) else (bif decide (IntKind.i64.wrap ((rget (r42.v k p) a32.toNat).room - r47.v ((rget (r42.v k p) a32.toNat).b.toNat - (rget (r42.v k p) a32.toNat).a.toNat) fun (i : Nat) => f ((rget (r42.v k p) a32.toNat).a.toNat + i)) > IntKind.i64.wrap (r33.v2 n g (rget (r42.v k p) a32.toNat).a (rget (r42.v k p) a32.toNat).b * j2)) then (.e0 (av7) (al7)) else (match L22ab.run n g k p f a32 av7 al7 0 with | .e0 h4d0 h4d1 => (L22a.N n g j1 j2 k p f k_ (h4d0) (h4d1) (IntKind.i64.wrap (a32 + 1))) ))) else (.e1 (av7) (al7)))
noncomputable def L22a.run (n : Nat) (g : Nat → PD) (j1 : Int) (j2 : Int) (k : Nat) (p : Nat → PD) (f : Nat → Int) (av7 : Nat) (al7 : List Int) (a32 : Int) : L22a.O := L22a.N n g j1 j2 k p f ((((↑(r42.v k p).length : Int) - a32).toNat) + 1) av7 al7 a32
def L22a.Next (n : Nat) (g : Nat → PD) (j1 : Int) (j2 : Int) (k : Nat) (p : Nat → PD) (m : Nat) (f : Nat → Int) (k_ : Nat) (z_ : Nat × (List Int) × Int) (T_ : List AV) (h_ : AHeap) : Prop := LNextP (fun (z_ : Nat × (List Int) × Int) => L22a.T n g j1 j2 k p m f z_.1 z_.2.1 z_.2.2) (fun (z_ : Nat × (List Int) × Int) => L22a.H n g j1 j2 k p m f z_.1 z_.2.1 z_.2.2) (fun (z_ : Nat × (List Int) × Int) => L22a.inv n g j1 j2 k p m f z_.1 z_.2.1 z_.2.2) (fun (z_ : Nat × (List Int) × Int) => L22a.mu n g j1 j2 k p m f z_.1 z_.2.1 z_.2.2) (fun (k_ : Nat) (z_ : Nat × (List Int) × Int) => L22a.N n g j1 j2 k p f k_ z_.1 z_.2.1 z_.2.2) k_ z_ T_ h_
def L22a.End (n : Nat) (g : Nat → PD) (j1 : Int) (j2 : Int) (k : Nat) (p : Nat → PD) (m : Nat) (f : Nat → Int) (k_ : Nat) (z_ : Nat × (List Int) × Int) (e_ : Exit) (T_ : List AV) (h_ : AHeap) : Prop := LEndP (fun (z_ : Nat × (List Int) × Int) => L22a.H n g j1 j2 k p m f z_.1 z_.2.1 z_.2.2) (fun (k_ : Nat) (z_ : Nat × (List Int) × Int) => L22a.N n g j1 j2 k p f k_ z_.1 z_.2.1 z_.2.2) L22a.E (L22a.X n g j1 j2 k p m f) (L22a.XH n g j1 j2 k p m f) k_ z_ e_ T_ h_
theorem L22a.nx (n : Nat) (g : Nat → PD) (j1 : Int) (j2 : Int) (k : Nat) (p : Nat → PD) (m : Nat) (f : Nat → Int) {k_ : Nat} {z_ : Nat × (List Int) × Int} {h_ : AHeap} (s_ : Nat × (List Int) × Int) (h1 : L22a.inv n g j1 j2 k p m f s_.1 s_.2.1 s_.2.2) (h2 : L22a.mu n g j1 j2 k p m f s_.1 s_.2.1 s_.2.2 < L22a.mu n g j1 j2 k p m f z_.1 z_.2.1 z_.2.2) (h3 : L22a.N n g j1 j2 k p f k_ s_.1 s_.2.1 s_.2.2 = L22a.N n g j1 j2 k p f (k_ + 1) z_.1 z_.2.1 z_.2.2) (h4 : PopOk (L22a.H n g j1 j2 k p m f z_.1 z_.2.1 z_.2.2) h_ (L22a.T n g j1 j2 k p m f s_.1 s_.2.1 s_.2.2) (L22a.H n g j1 j2 k p m f s_.1 s_.2.1 s_.2.2)) : LNextP (fun (z_ : Nat × (List Int) × Int) => L22a.T n g j1 j2 k p m f z_.1 z_.2.1 z_.2.2) (fun (z_ : Nat × (List Int) × Int) => L22a.H n g j1 j2 k p m f z_.1 z_.2.1 z_.2.2) (fun (z_ : Nat × (List Int) × Int) => L22a.inv n g j1 j2 k p m f z_.1 z_.2.1 z_.2.2) (fun (z_ : Nat × (List Int) × Int) => L22a.mu n g j1 j2 k p m f z_.1 z_.2.1 z_.2.2) (fun (k_ : Nat) (z_ : Nat × (List Int) × Int) => L22a.N n g j1 j2 k p f k_ z_.1 z_.2.1 z_.2.2) k_ z_ (L22a.T n g j1 j2 k p m f s_.1 s_.2.1 s_.2.2) h_ := LNextP.mk (Tm := (fun (z_ : Nat × (List Int) × Int) => L22a.T n g j1 j2 k p m f z_.1 z_.2.1 z_.2.2)) (Hp := (fun (z_ : Nat × (List Int) × Int) => L22a.H n g j1 j2 k p m f z_.1 z_.2.1 z_.2.2)) (inv := (fun (z_ : Nat × (List Int) × Int) => L22a.inv n g j1 j2 k p m f z_.1 z_.2.1 z_.2.2)) (mu := (fun (z_ : Nat × (List Int) × Int) => L22a.mu n g j1 j2 k p m f z_.1 z_.2.1 z_.2.2)) (l := (fun (k_ : Nat) (z_ : Nat × (List Int) × Int) => L22a.N n g j1 j2 k p f k_ z_.1 z_.2.1 z_.2.2)) s_ h1 h2 h3 h4
theorem L22a.en (n : Nat) (g : Nat → PD) (j1 : Int) (j2 : Int) (k : Nat) (p : Nat → PD) (m : Nat) (f : Nat → Int) {k_ : Nat} {z_ : Nat × (List Int) × Int} {h_ : AHeap} (o_ : L22a.O) (h3 : L22a.N n g j1 j2 k p f (k_ + 1) z_.1 z_.2.1 z_.2.2 = o_) (h4 : PopOk (L22a.H n g j1 j2 k p m f z_.1 z_.2.1 z_.2.2) h_ (L22a.X n g j1 j2 k p m f o_) (L22a.XH n g j1 j2 k p m f o_)) : LEndP (fun (z_ : Nat × (List Int) × Int) => L22a.H n g j1 j2 k p m f z_.1 z_.2.1 z_.2.2) (fun (k_ : Nat) (z_ : Nat × (List Int) × Int) => L22a.N n g j1 j2 k p f k_ z_.1 z_.2.1 z_.2.2) L22a.E (L22a.X n g j1 j2 k p m f) (L22a.XH n g j1 j2 k p m f) k_ z_ (L22a.E o_) (L22a.X n g j1 j2 k p m f o_) h_ := LEndP.mk (Hp := (fun (z_ : Nat × (List Int) × Int) => L22a.H n g j1 j2 k p m f z_.1 z_.2.1 z_.2.2)) (l := (fun (k_ : Nat) (z_ : Nat × (List Int) × Int) => L22a.N n g j1 j2 k p f k_ z_.1 z_.2.1 z_.2.2)) (oE := L22a.E) (oT := L22a.X n g j1 j2 k p m f) (oH := L22a.XH n g j1 j2 k p m f) o_ h3 h4
noncomputable abbrev L22a.h0 (n : Nat) (g : Nat → PD) (j1 : Int) (j2 : Int) (k : Nat) (p : Nat → PD) (m : Nat) (f : Nat → Int) (av7 : Nat) (al7 : List Int) (a32 : Int) : AHeap := ([AObj.var (AV.agg [AV.sl 2 n fun (i : Nat) => AV.agg [AV.int IntKind.i64 (g i).lo, AV.int IntKind.i64 (g i).hi], AV.int IntKind.i64 j1, AV.int IntKind.i64 j2, AV.sl 2 k fun (i : Nat) => AV.agg [AV.int IntKind.i64 (p i).lo, AV.int IntKind.i64 (p i).hi]]), AObj.row 1 av7 (Col.ints IntKind.i64 al7), AObj.var (AV.agg [AV.int IntKind.i64 (rget (r42.v k p) a32.toNat).a, AV.int IntKind.i64 (rget (r42.v k p) a32.toNat).b, AV.int IntKind.i64 (rget (r42.v k p) a32.toNat).room])])
theorem L22a.spec (n : Nat) (g : Nat → PD) (hn : n ≤ 9223372036854775807) (j1 : Int) (j2 : Int) (k : Nat) (p : Nat → PD) (hk : k ≤ 30) (m : Nat) (f : Nat → Int) (hm : m ≤ 9223372036854775807) (k0_1 : (r16.v n g j1 j2 k p == 0) = true) (p0_1 : r16.v n g j1 j2 k p = 0) (k0_2 : ((↑m : Int) == (↑n : Int)) = true) (p0_2 : (↑m : Int) = (↑n : Int)) (k0_3 : r45a.v g m f = true) (k_ : Nat) (z_ : Nat × (List Int) × Int) (hi_ : L22a.inv n g j1 j2 k p m f z_.1 z_.2.1 z_.2.2) (hm_ : L22a.mu n g j1 j2 k p m f z_.1 z_.2.1 z_.2.2 < k_) : LoopTo Try.prog (loopN Try.f22 0) (L22a.T n g j1 j2 k p m f z_.1 z_.2.1 z_.2.2) (L22a.H n g j1 j2 k p m f z_.1 z_.2.1 z_.2.2) (L22a.E (L22a.N n g j1 j2 k p f k_ z_.1 z_.2.1 z_.2.2)) (L22a.X n g j1 j2 k p m f (L22a.N n g j1 j2 k p f k_ z_.1 z_.2.1 z_.2.2)) (L22a.XH n g j1 j2 k p m f (L22a.N n g j1 j2 k p f k_ z_.1 z_.2.1 z_.2.2)) := by
  refine LoopTo.fuelP mix (fun (z_ : Nat × (List Int) × Int) => L22a.T n g j1 j2 k p m f z_.1 z_.2.1 z_.2.2) (fun (z_ : Nat × (List Int) × Int) => L22a.H n g j1 j2 k p m f z_.1 z_.2.1 z_.2.2) (fun (z_ : Nat × (List Int) × Int) => L22a.inv n g j1 j2 k p m f z_.1 z_.2.1 z_.2.2) (fun (z_ : Nat × (List Int) × Int) => L22a.mu n g j1 j2 k p m f z_.1 z_.2.1 z_.2.2) (fun (k_ : Nat) (z_ : Nat × (List Int) × Int) => L22a.N n g j1 j2 k p f k_ z_.1 z_.2.1 z_.2.2) L22a.E (L22a.X n g j1 j2 k p m f) (L22a.XH n g j1 j2 k p m f) (others 90 [1, 2, 7, 30, 31, 32]) (others 90 [4, 5]) (others 90 [7]) ?_ k_ z_ hi_ hm_
  clear hm_ hi_ z_ k_
  intro k_ z_ hinv hmu
  obtain ⟨av7, al7, a32⟩ := z_
  have hinv : 0 ≤ a32 ∧ (a32 ≤ (↑(r42.v k p).length : Int) ∨ a32 ≤ 0) ∧ (↑al7.length : Int) ≤ 1000000 * (a32 - 0) := hinv
  have hmu : (((↑(r42.v k p).length : Int) - a32).toNat) < k_ + 1 := hmu
  cases h1 : decide (a32 < (↑(r42.v k p).length : Int)) with
  | true =>
    have h1p := of_decide_eq_true h1
    try have := bd_parts (by first | assumption | omega) (by first | assumption | omega)
    try have := bd22 (by first | assumption | omega) (by first | assumption | omega) (by first | assumption | omega) (by first | assumption | omega) (by first | assumption | omega)
    try have := bd42 (by first | assumption | omega) (by first | assumption | omega) (by first | assumption | omega)
    try have := bd_m2 (by first | assumption | omega) (by first | assumption | omega)
    try have := L22ab.lenR0_1 _ _ _ _ _ _ (by assumption); (try simp only [List.length_nil] at this)
    have o0 : (0 : Int) ≤ a32 := by first | assumption | omega | (simp_all; done)
    have o1 : a32 < (↑(r42.v k p).length : Int) := by first | assumption | omega | (simp only [List.length_append, List.length_cons, List.length_nil, List.length_map]; omega) | (simp_all; done)
    have o2 : n ≤ (9223372036854775807 : Nat) := by first | assumption | omega | (simp_all; done)
    have o3 : (0 : Int) ≤ (rget (r42.v k p) a32.toNat).a := by first | assumption | omega | (apply hint_a <;> first | assumption | omega) | (simp_all; done)
    have o4 : (rget (r42.v k p) a32.toNat).a ≤ (rget (r42.v k p) a32.toNat).b := by first | assumption | omega | (apply hint_b <;> first | assumption | omega) | (simp_all; done)
    have o5 : (rget (r42.v k p) a32.toNat).b ≤ (↑n : Int) := by first | assumption | omega | (apply hint_c <;> first | assumption | omega) | (simp_all; done)
    have o6 : (rget (r42.v k p) a32.toNat).b ≤ (9223372036854775807 : Int) := by first | assumption | omega | (apply hint_d <;> first | assumption | omega) | (simp_all; done)
    have o7 : (rget (r42.v k p) a32.toNat).b ≤ (↑m : Int) := by first | assumption | omega | (apply hint_c <;> first | assumption | omega) | (simp_all; done)
    have o8 : (rget (r42.v k p) a32.toNat).b.toNat - (rget (r42.v k p) a32.toNat).a.toNat ≤ (9223372036854775807 : Nat) := by first | assumption | omega | (simp_all; done)
    cases h2 : decide (IntKind.i64.wrap ((rget (r42.v k p) a32.toNat).room - r47.v ((rget (r42.v k p) a32.toNat).b.toNat - (rget (r42.v k p) a32.toNat).a.toNat) fun (i : Nat) => f ((rget (r42.v k p) a32.toNat).a.toNat + i)) < IntKind.i64.wrap (r33.v2 n g (rget (r42.v k p) a32.toNat).a (rget (r42.v k p) a32.toNat).b * j1)) with
    | true =>
      have h2p := of_decide_eq_true h2
      exact ⟨[.b true, .ret (AV.agg [AV.int IntKind.i64 (r33.v0 n g (rget (r42.v k p) a32.toNat).a (rget (r42.v k p) a32.toNat).b), AV.int IntKind.i64 (r33.v1 n g (rget (r42.v k p) a32.toNat).a (rget (r42.v k p) a32.toNat).b), AV.int IntKind.i64 (r33.v2 n g (rget (r42.v k p) a32.toNat).a (rget (r42.v k p) a32.toNat).b)]) (L22a.h0 n g j1 j2 k p m f av7 al7 a32), .ret (AV.int IntKind.i64 (r47.v ((rget (r42.v k p) a32.toNat).b.toNat - (rget (r42.v k p) a32.toNat).a.toNat) fun (i : Nat) => f ((rget (r42.v k p) a32.toNat).a.toNat + i))) (L22a.h0 n g j1 j2 k p m f av7 al7 a32), .b true, .b true, .b true, .b true, .b true, .b true, .b true, .b true, .b true], kmp (by kernel_rfl) (And.intro h1 (And.intro (And.intro o0 o1) (And.intro (r33 (n) (g) o2 (j1) (j2) (k) (p) ((rget (r42.v k p) a32.toNat).a) ((rget (r42.v k p) a32.toNat).b) o3 o4 o5 o6 (L22a.h0 n g j1 j2 k p m f av7 al7 a32)) (And.intro (And.intro o3 (And.intro o4 o7)) (And.intro (r47 ((rget (r42.v k p) a32.toNat).b.toNat - (rget (r42.v k p) a32.toNat).a.toNat) (fun (i : Nat) => f ((rget (r42.v k p) a32.toNat).a.toNat + i)) o8 (L22a.h0 n g j1 j2 k p m f av7 al7 a32)) (And.intro h2 (And.intro h2 (And.intro h2 (And.intro h2 (And.intro h2 (And.intro h2 (And.intro h2 (And.intro h2 (And.intro (rfl : true = true) (L22a.en n g j1 j2 k p m f (k_ := k_) (z_ := (av7, al7, a32)) (h_ := [AObj.var (AV.agg [AV.sl 2 n fun (i : Nat) => AV.agg [AV.int IntKind.i64 (g i).lo, AV.int IntKind.i64 (g i).hi], AV.int IntKind.i64 j1, AV.int IntKind.i64 j2, AV.sl 2 k fun (i : Nat) => AV.agg [AV.int IntKind.i64 (p i).lo, AV.int IntKind.i64 (p i).hi]]), AObj.row 1 av7 (Col.ints IntKind.i64 al7), AObj.var (AV.agg [AV.int IntKind.i64 (rget (r42.v k p) a32.toNat).a, AV.int IntKind.i64 (rget (r42.v k p) a32.toNat).b, AV.int IntKind.i64 (rget (r42.v k p) a32.toNat).room])]) (.e0 (av7) (al7) : L22a.O) (by first | (simp only [L22a.N, h1, h2, cond_true, cond_false]; done) | (try unfold L22a.N; try simp only [h1, cond_true, cond_false]; try simp only [h2, cond_true, cond_false]; try rfl; done)) (PopOk.pop rfl (by simp [L22a.T, L22a.X, L22a.H, L22a.XH])))))))))))))))))⟩
    | false =>
      have h2p := of_decide_eq_false h2
      cases h3 : decide (IntKind.i64.wrap ((rget (r42.v k p) a32.toNat).room - r47.v ((rget (r42.v k p) a32.toNat).b.toNat - (rget (r42.v k p) a32.toNat).a.toNat) fun (i : Nat) => f ((rget (r42.v k p) a32.toNat).a.toNat + i)) > IntKind.i64.wrap (r33.v2 n g (rget (r42.v k p) a32.toNat).a (rget (r42.v k p) a32.toNat).b * j2)) with
      | true =>
        have h3p := of_decide_eq_true h3
        exact ⟨[.b true, .ret (AV.agg [AV.int IntKind.i64 (r33.v0 n g (rget (r42.v k p) a32.toNat).a (rget (r42.v k p) a32.toNat).b), AV.int IntKind.i64 (r33.v1 n g (rget (r42.v k p) a32.toNat).a (rget (r42.v k p) a32.toNat).b), AV.int IntKind.i64 (r33.v2 n g (rget (r42.v k p) a32.toNat).a (rget (r42.v k p) a32.toNat).b)]) (L22a.h0 n g j1 j2 k p m f av7 al7 a32), .ret (AV.int IntKind.i64 (r47.v ((rget (r42.v k p) a32.toNat).b.toNat - (rget (r42.v k p) a32.toNat).a.toNat) fun (i : Nat) => f ((rget (r42.v k p) a32.toNat).a.toNat + i))) (L22a.h0 n g j1 j2 k p m f av7 al7 a32), .b false, .b false, .b false, .b false, .b false, .b false, .b false, .b false, .b true], kmp (by kernel_rfl) (And.intro h1 (And.intro (And.intro o0 o1) (And.intro (r33 (n) (g) o2 (j1) (j2) (k) (p) ((rget (r42.v k p) a32.toNat).a) ((rget (r42.v k p) a32.toNat).b) o3 o4 o5 o6 (L22a.h0 n g j1 j2 k p m f av7 al7 a32)) (And.intro (And.intro o3 (And.intro o4 o7)) (And.intro (r47 ((rget (r42.v k p) a32.toNat).b.toNat - (rget (r42.v k p) a32.toNat).a.toNat) (fun (i : Nat) => f ((rget (r42.v k p) a32.toNat).a.toNat + i)) o8 (L22a.h0 n g j1 j2 k p m f av7 al7 a32)) (And.intro h2 (And.intro h2 (And.intro h2 (And.intro h2 (And.intro h2 (And.intro h2 (And.intro h2 (And.intro h2 (And.intro h3 (L22a.en n g j1 j2 k p m f (k_ := k_) (z_ := (av7, al7, a32)) (h_ := [AObj.var (AV.agg [AV.sl 2 n fun (i : Nat) => AV.agg [AV.int IntKind.i64 (g i).lo, AV.int IntKind.i64 (g i).hi], AV.int IntKind.i64 j1, AV.int IntKind.i64 j2, AV.sl 2 k fun (i : Nat) => AV.agg [AV.int IntKind.i64 (p i).lo, AV.int IntKind.i64 (p i).hi]]), AObj.row 1 av7 (Col.ints IntKind.i64 al7), AObj.var (AV.agg [AV.int IntKind.i64 (rget (r42.v k p) a32.toNat).a, AV.int IntKind.i64 (rget (r42.v k p) a32.toNat).b, AV.int IntKind.i64 (rget (r42.v k p) a32.toNat).room])]) (.e0 (av7) (al7) : L22a.O) (by first | (simp only [L22a.N, h1, h2, h3, cond_true, cond_false]; done) | (try unfold L22a.N; try simp only [h1, cond_true, cond_false]; try simp only [h2, cond_true, cond_false]; try simp only [h3, cond_true, cond_false]; try rfl; done)) (PopOk.pop rfl (by simp [L22a.T, L22a.X, L22a.H, L22a.XH])))))))))))))))))⟩
      | false =>
        have h3p := of_decide_eq_false h3
        try have := bd_parts (by first | assumption | omega) (by first | assumption | omega)
        try have := bd22 (by first | assumption | omega) (by first | assumption | omega) (by first | assumption | omega) (by first | assumption | omega) (by first | assumption | omega)
        try have := bd42 (by first | assumption | omega) (by first | assumption | omega) (by first | assumption | omega)
        try have := bd_m2 (by first | assumption | omega) (by first | assumption | omega)
        try have := L22ab.lenR0_1 _ _ _ _ _ _ (by assumption); (try simp only [List.length_nil] at this)
        have o9 : k ≤ (30 : Nat) := by first | assumption | omega | (simp_all; done)
        have o10 : m ≤ (9223372036854775807 : Nat) := by first | assumption | omega | (simp_all; done)
        have o11 : (r16.v n g j1 j2 k p == (0 : Int)) = true := by first | assumption | omega | (simp_all; done)
        have o12 : r16.v n g j1 j2 k p = (0 : Int) := by first | assumption | omega | (simp_all; done)
        have o13 : ((↑m : Int) == (↑n : Int)) = true := by first | assumption | omega | (simp_all; done)
        have o14 : (↑m : Int) = (↑n : Int) := by first | assumption | omega | (simp_all; done)
        have o15 : r45a.v g m f = true := by first | assumption | omega | (simp_all; done)
        have o16 : a32 ≤ (↑(r42.v k p).length : Int) ∨ a32 ≤ (0 : Int) := by first | assumption | omega | (simp only [List.length_append, List.length_cons, List.length_nil, List.length_map]; omega) | (simp_all; done)
        have o17 : (↑al7.length : Int) ≤ (1000000 : Int) * (a32 - (0 : Int)) := by first | assumption | omega | (simp only [List.length_append, List.length_cons, List.length_nil, List.length_map]; omega) | (simp_all; done)
        have o18 : decide (a32 < (↑(r42.v k p).length : Int)) = true := by first | assumption | omega | (simp only [List.length_append, List.length_cons, List.length_nil, List.length_map]; omega) | (simp_all; done)
        have o19 : (0 : Int) ≤ r33.v2 n g (rget (r42.v k p) a32.toNat).a (rget (r42.v k p) a32.toNat).b ∨ (0 : Int) ≤ (0 : Int) := by first | assumption | omega | (simp_all; done)
        have o20 : (↑al7.length : Int) + (↑(r33.v2 n g (rget (r42.v k p) a32.toNat).a (rget (r42.v k p) a32.toNat).b - (0 : Int)).toNat : Int) ≤ (1000000000 : Int) := by first | assumption | omega | (simp only [List.length_append, List.length_cons, List.length_nil, List.length_map]; omega) | (simp_all; done)
        cases h4 : L22ab.run n g k p f a32 av7 al7 0 with
        | e0 h4d0 h4d1 =>
          try have := bd_parts (by first | assumption | omega) (by first | assumption | omega)
          try have := bd22 (by first | assumption | omega) (by first | assumption | omega) (by first | assumption | omega) (by first | assumption | omega) (by first | assumption | omega)
          try have := bd42 (by first | assumption | omega) (by first | assumption | omega) (by first | assumption | omega)
          try have := bd_m2 (by first | assumption | omega) (by first | assumption | omega)
          try have := L22ab.lenR0_1 _ _ _ _ _ _ (by assumption); (try simp only [List.length_nil] at this)
          try have := IntWalk.i64_in (a32 + 1) (by omega)
          have o21 : (0 : Int) ≤ IntKind.i64.wrap (a32 + (1 : Int)) := by first | assumption | omega | (simp_all; done)
          have o22 : IntKind.i64.wrap (a32 + (1 : Int)) ≤ (↑(r42.v k p).length : Int) ∨ IntKind.i64.wrap (a32 + (1 : Int)) ≤ (0 : Int) := by first | assumption | omega | (simp only [List.length_append, List.length_cons, List.length_nil, List.length_map]; omega) | (simp_all; done)
          have o23 : (↑h4d1.length : Int) ≤ (1000000 : Int) * (IntKind.i64.wrap (a32 + (1 : Int)) - (0 : Int)) := by first | assumption | omega | (simp only [List.length_append, List.length_cons, List.length_nil, List.length_map]; omega) | (simp_all; done)
          have o24 : ((↑(r42.v k p).length : Int) - IntKind.i64.wrap (a32 + (1 : Int))).toNat < ((↑(r42.v k p).length : Int) - a32).toNat := by first | assumption | omega | (simp only [List.length_append, List.length_cons, List.length_nil, List.length_map]; omega) | (simp_all; done)
          exact ⟨[.b true, .ret (AV.agg [AV.int IntKind.i64 (r33.v0 n g (rget (r42.v k p) a32.toNat).a (rget (r42.v k p) a32.toNat).b), AV.int IntKind.i64 (r33.v1 n g (rget (r42.v k p) a32.toNat).a (rget (r42.v k p) a32.toNat).b), AV.int IntKind.i64 (r33.v2 n g (rget (r42.v k p) a32.toNat).a (rget (r42.v k p) a32.toNat).b)]) (L22a.h0 n g j1 j2 k p m f av7 al7 a32), .ret (AV.int IntKind.i64 (r47.v ((rget (r42.v k p) a32.toNat).b.toNat - (rget (r42.v k p) a32.toNat).a.toNat) fun (i : Nat) => f ((rget (r42.v k p) a32.toNat).a.toNat + i))) (L22a.h0 n g j1 j2 k p m f av7 al7 a32), .b false, .b false, .b false, .b false, .b false, .b false, .b false, .b false, .b false, .virt [2] [], .loop (others 90 [1, 2, 7, 10, 11, 30, 31, 32, 69, 70]) (Exit.exit 2) (L22ab.X n g j1 j2 k p m f al7 a32 (L22ab.O.e0 h4d0 h4d1)) (L22ab.XH n g j1 j2 k p m f al7 a32 (L22ab.O.e0 h4d0 h4d1))], kmp (by kernel_rfl) (And.intro h1 (And.intro (And.intro o0 o1) (And.intro (r33 (n) (g) o2 (j1) (j2) (k) (p) ((rget (r42.v k p) a32.toNat).a) ((rget (r42.v k p) a32.toNat).b) o3 o4 o5 o6 (L22a.h0 n g j1 j2 k p m f av7 al7 a32)) (And.intro (And.intro o3 (And.intro o4 o7)) (And.intro (r47 ((rget (r42.v k p) a32.toNat).b.toNat - (rget (r42.v k p) a32.toNat).a.toNat) (fun (i : Nat) => f ((rget (r42.v k p) a32.toNat).a.toNat + i)) o8 (L22a.h0 n g j1 j2 k p m f av7 al7 a32)) (And.intro h2 (And.intro h2 (And.intro h2 (And.intro h2 (And.intro h2 (And.intro h2 (And.intro h2 (And.intro h2 (And.intro h3 (And.intro trivial (And.intro (L22ab.e0 (n) (g) o2 (j1) (j2) (k) (p) o9 (m) (f) o10 o11 o12 o13 o14 o15 (al7) (a32) o0 o16 o17 o18 o1 (av7) (al7) (0) (And.intro (show (0 : Int) ≤ (0 : Int) by first | decide | exact Int.NonNeg.mk _) (And.intro o19 o20)) h4d0 h4d1 h4) (L22a.nx n g j1 j2 k p m f (k_ := k_) (z_ := (av7, al7, a32)) (h_ := [AObj.var (AV.agg [AV.sl 2 n fun (i : Nat) => AV.agg [AV.int IntKind.i64 (g i).lo, AV.int IntKind.i64 (g i).hi], AV.int IntKind.i64 j1, AV.int IntKind.i64 j2, AV.sl 2 k fun (i : Nat) => AV.agg [AV.int IntKind.i64 (p i).lo, AV.int IntKind.i64 (p i).hi]]), AObj.row 1 h4d0 (Col.ints IntKind.i64 h4d1), AObj.dead]) ((h4d0, h4d1, IntKind.i64.wrap (a32 + 1))) (And.intro o21 (And.intro o22 o23)) o24 (by first | (simp only [L22a.N, h1, h2, h3, h4, cond_true, cond_false]; done) | (try unfold L22a.N; try simp only [h1, cond_true, cond_false]; try simp only [h2, cond_true, cond_false]; try simp only [h3, cond_true, cond_false]; try simp only [h4, cond_true, cond_false]; try rfl; done)) (PopOk.popLow _ rfl rfl (by simp [L22a.T, L22a.X, L22a.H, L22a.XH]) (by simp [L22a.T, L22a.X, L22a.H, L22a.XH])))))))))))))))))))⟩
  | false =>
    have h1p := of_decide_eq_false h1
    exact ⟨[.b false], kmp (by kernel_rfl) (And.intro h1 (L22a.en n g j1 j2 k p m f (k_ := k_) (z_ := (av7, al7, a32)) (.e1 (av7) (al7) : L22a.O) (by first | (simp only [L22a.N, h1, cond_true, cond_false]; done) | (try unfold L22a.N; try simp only [h1, cond_true, cond_false]; try rfl; done)) PopOk.same))⟩
theorem L22a.e0 (n : Nat) (g : Nat → PD) (hn : n ≤ 9223372036854775807) (j1 : Int) (j2 : Int) (k : Nat) (p : Nat → PD) (hk : k ≤ 30) (m : Nat) (f : Nat → Int) (hm : m ≤ 9223372036854775807) (k0_1 : (r16.v n g j1 j2 k p == 0) = true) (p0_1 : r16.v n g j1 j2 k p = 0) (k0_2 : ((↑m : Int) == (↑n : Int)) = true) (p0_2 : (↑m : Int) = (↑n : Int)) (k0_3 : r45a.v g m f = true) (av7 : Nat) (al7 : List Int) (a32 : Int) (hinv : L22a.inv n g j1 j2 k p m f av7 al7 a32) (a0 : Nat) (a1 : List Int) (hN : L22a.run n g j1 j2 k p f av7 al7 a32 = (.e0 a0 a1 : L22a.O)) : LoopTo Try.prog (loopN Try.f22 0) (L22a.T n g j1 j2 k p m f av7 al7 a32) (L22a.H n g j1 j2 k p m f av7 al7 a32) (Exit.ret) (L22a.X n g j1 j2 k p m f (.e0 a0 a1 : L22a.O)) (L22a.XH n g j1 j2 k p m f (.e0 a0 a1 : L22a.O)) := by
  have h_ := L22a.spec n g hn j1 j2 k p hk m f hm k0_1 p0_1 k0_2 p0_2 k0_3 ((((↑(r42.v k p).length : Int) - a32).toNat) + 1) (av7, al7, a32) hinv (Nat.lt_succ_self _)
  unfold L22a.run at hN
  simp only [hN] at h_
  exact h_
theorem L22a.e1 (n : Nat) (g : Nat → PD) (hn : n ≤ 9223372036854775807) (j1 : Int) (j2 : Int) (k : Nat) (p : Nat → PD) (hk : k ≤ 30) (m : Nat) (f : Nat → Int) (hm : m ≤ 9223372036854775807) (k0_1 : (r16.v n g j1 j2 k p == 0) = true) (p0_1 : r16.v n g j1 j2 k p = 0) (k0_2 : ((↑m : Int) == (↑n : Int)) = true) (p0_2 : (↑m : Int) = (↑n : Int)) (k0_3 : r45a.v g m f = true) (av7 : Nat) (al7 : List Int) (a32 : Int) (hinv : L22a.inv n g j1 j2 k p m f av7 al7 a32) (a0 : Nat) (a1 : List Int) (hN : L22a.run n g j1 j2 k p f av7 al7 a32 = (.e1 a0 a1 : L22a.O)) : LoopTo Try.prog (loopN Try.f22 0) (L22a.T n g j1 j2 k p m f av7 al7 a32) (L22a.H n g j1 j2 k p m f av7 al7 a32) (Exit.exit 0) (L22a.X n g j1 j2 k p m f (.e1 a0 a1 : L22a.O)) (L22a.XH n g j1 j2 k p m f (.e1 a0 a1 : L22a.O)) := by
  have h_ := L22a.spec n g hn j1 j2 k p hk m f hm k0_1 p0_1 k0_2 p0_2 k0_3 ((((↑(r42.v k p).length : Int) - a32).toNat) + 1) (av7, al7, a32) hinv (Nat.lt_succ_self _)
  unfold L22a.run at hN
  simp only [hN] at h_
  exact h_

noncomputable def r22.v0 (n : Nat) (g : Nat → PD) (j1 : Int) (j2 : Int) (k : Nat) (p : Nat → PD) (m : Nat) (f : Nat → Int) : List Int := (bif r16.v n g j1 j2 k p == 0 then (bif (↑m : Int) == (↑n : Int) then (bif r45a.v g m f then (match L22a.run n g j1 j2 k p f 0 [] 0 with | .e0 h4d0 h4d1 => ([] : List Int) | .e1 h4d0 h4d1 => h4d1 ) else ([] : List Int)) else ([] : List Int)) else ([] : List Int))
noncomputable def r22.v1 (n : Nat) (g : Nat → PD) (j1 : Int) (j2 : Int) (k : Nat) (p : Nat → PD) (m : Nat) (f : Nat → Int) : Int := (bif r16.v n g j1 j2 k p == 0 then (bif (↑m : Int) == (↑n : Int) then (bif r45a.v g m f then (match L22a.run n g j1 j2 k p f 0 [] 0 with | .e0 h4d0 h4d1 => 10 | .e1 h4d0 h4d1 => 0 ) else 6) else 1) else r16.v n g j1 j2 k p)
noncomputable abbrev r22.h0 (n : Nat) (g : Nat → PD) (j1 : Int) (j2 : Int) (k : Nat) (p : Nat → PD) (m : Nat) (f : Nat → Int) : AHeap := ([AObj.var (AV.agg [AV.sl 2 n fun (i : Nat) => AV.agg [AV.int IntKind.i64 (g i).lo, AV.int IntKind.i64 (g i).hi], AV.int IntKind.i64 j1, AV.int IntKind.i64 j2, AV.sl 2 k fun (i : Nat) => AV.agg [AV.int IntKind.i64 (p i).lo, AV.int IntKind.i64 (p i).hi]])])
theorem r22 (n : Nat) (g : Nat → PD) (hn : n ≤ 9223372036854775807) (j1 : Int) (j2 : Int) (k : Nat) (p : Nat → PD) (hk : k ≤ 30) (m : Nat) (f : Nat → Int) (hm : m ≤ 9223372036854775807) (h : AHeap) : Ret Try.prog 22 ([rn n g j1 j2 k p, ivs m f]) h (AV.tup [(avInts IntKind.i64 (r22.v0 n g j1 j2 k p m f)), (AV.int IntKind.i64 (r22.v1 n g j1 j2 k p m f))]) h := by
  try have := bd_parts (by first | assumption | omega) (by first | assumption | omega)
  try have := bd22 (by first | assumption | omega) (by first | assumption | omega) (by first | assumption | omega) (by first | assumption | omega) (by first | assumption | omega)
  try have := bd42 (by first | assumption | omega) (by first | assumption | omega) (by first | assumption | omega)
  try have := bd_m2 (by first | assumption | omega) (by first | assumption | omega)
  have o0 : n ≤ (9223372036854775807 : Nat) := by first | assumption | omega | (simp_all; done)
  have o1 : k ≤ (9223372036854775807 : Nat) := by first | assumption | omega | (simp_all; done)
  cases h1 : r16.v n g j1 j2 k p == 0 with
  | true =>
    have h1p := eq_of_beq h1
    cases h2 : (↑m : Int) == (↑n : Int) with
    | true =>
      have h2p := eq_of_beq h2
      try have := bd_parts (by first | assumption | omega) (by first | assumption | omega)
      try have := bd22 (by first | assumption | omega) (by first | assumption | omega) (by first | assumption | omega) (by first | assumption | omega) (by first | assumption | omega)
      try have := bd42 (by first | assumption | omega) (by first | assumption | omega) (by first | assumption | omega)
      try have := bd_m2 (by first | assumption | omega) (by first | assumption | omega)
      have o2 : m ≤ n := by first | assumption | omega | (simp_all; done)
      cases h3 : r45a.v g m f with
      | true =>
        try have := bd_parts (by first | assumption | omega) (by first | assumption | omega)
        try have := bd22 (by first | assumption | omega) (by first | assumption | omega) (by first | assumption | omega) (by first | assumption | omega) (by first | assumption | omega)
        try have := bd42 (by first | assumption | omega) (by first | assumption | omega) (by first | assumption | omega)
        try have := bd_m2 (by first | assumption | omega) (by first | assumption | omega)
        have o3 : k ≤ (30 : Nat) := by first | assumption | omega | (simp_all; done)
        have o4 : m ≤ (9223372036854775807 : Nat) := by first | assumption | omega | (simp_all; done)
        have o5 : (r16.v n g j1 j2 k p == (0 : Int)) = true := by first | assumption | omega | (simp_all; done)
        have o6 : r16.v n g j1 j2 k p = (0 : Int) := by first | assumption | omega | (simp_all; done)
        have o7 : ((↑m : Int) == (↑n : Int)) = true := by first | assumption | omega | (simp_all; done)
        have o8 : (↑m : Int) = (↑n : Int) := by first | assumption | omega | (simp_all; done)
        have o9 : r45a.v g m f = true := by first | assumption | omega | (simp_all; done)
        have o10 : (0 : Int) ≤ (↑(r42.v k p).length : Int) ∨ (0 : Int) ≤ (0 : Int) := by first | assumption | omega | (simp only [List.length_append, List.length_cons, List.length_nil, List.length_map]; omega) | (simp_all; done)
        cases h4 : L22a.run n g j1 j2 k p f 0 [] 0 with
        | e0 h4d0 h4d1 =>
          exact Ret.val (show (AV.tup [(avInts IntKind.i64 ([] : List Int)), AV.int IntKind.i64 10]) = (AV.tup [(avInts IntKind.i64 (r22.v0 n g j1 j2 k p m f)), (AV.int IntKind.i64 (r22.v1 n g j1 j2 k p m f))]) by first | (simp only [r22.v0, r22.v1, h1, h2, h3, h4, cond_true, cond_false]; done) | (try unfold r22.v0; try unfold r22.v1; try simp only [h1, cond_true, cond_false]; try simp only [h2, cond_true, cond_false]; try simp only [h3, cond_true, cond_false]; try simp only [h4, cond_true, cond_false]; try rfl; done) | rfl) (Ret.of_run1 mix [(avInts IntKind.i64 ([] : List Int)), AV.int IntKind.i64 10] Try.func22 rfl [.ret (AV.int IntKind.i64 (r16.v n g j1 j2 k p)) (r22.h0 n g j1 j2 k p m f), .b false, .b false, .ret (AV.bool (r45a.v g m f)) (r22.h0 n g j1 j2 k p m f), .b false, .ret (AV.sl 3 (r42.v k p).length fun (i : Nat) => AV.agg [AV.int IntKind.i64 (rget (r42.v k p) i).a, AV.int IntKind.i64 (rget (r42.v k p) i).b, AV.int IntKind.i64 (rget (r42.v k p) i).room]) (r22.h0 n g j1 j2 k p m f), .virt [] [(none, 7, 1, Col.ints IntKind.i64 [])], .loop (others 90 [1, 2, 7, 30, 31, 32]) (Exit.ret) (L22a.X n g j1 j2 k p m f (L22a.O.e0 h4d0 h4d1)) (L22a.XH n g j1 j2 k p m f (L22a.O.e0 h4d0 h4d1))] (by simp) (by simp) (kmp (by kernel_rfl) (And.intro (r16 (n) (g) o0 (j1) (j2) (k) (p) o1 (r22.h0 n g j1 j2 k p m f)) (And.intro (show (bnot (r16.v n g j1 j2 k p == 0)) = false by rw [h1]; try rfl) (And.intro (show (bnot ((↑m : Int) == (↑n : Int))) = false by rw [h2]; try rfl) (And.intro (r45a (n) (g) o0 (j1) (j2) (k) (p) (m) (f) o2) (And.intro (show (bnot (r45a.v g m f)) = false by rw [h3]; try rfl) (And.intro (r42 (n) (g) (j1) (j2) (k) (p) o3 (r22.h0 n g j1 j2 k p m f)) (And.intro (And.intro (rfl : AV.snil = AV.snil) (And.intro (rfl : (0 : Nat) = 0) trivial)) (And.intro (L22a.e0 (n) (g) o0 (j1) (j2) (k) (p) o3 (m) (f) o4 o5 o6 o7 o8 o9 (0) ([]) (0) (And.intro (show (0 : Int) ≤ (0 : Int) by first | decide | exact Int.NonNeg.mk _) (And.intro o10 (show (0 : Int) ≤ (0 : Int) by first | decide | exact Int.NonNeg.mk _))) h4d0 h4d1 h4) (And.intro (rfl : ((avInts IntKind.i64 ([] : List Int))) = ((avInts IntKind.i64 ([] : List Int)))) (And.intro (rfl : (AV.int IntKind.i64 10) = (AV.int IntKind.i64 10)) trivial))))))))))) h)
        | e1 h4d0 h4d1 =>
          try have := bd_parts (by first | assumption | omega) (by first | assumption | omega)
          try have := bd22 (by first | assumption | omega) (by first | assumption | omega) (by first | assumption | omega) (by first | assumption | omega) (by first | assumption | omega)
          try have := bd42 (by first | assumption | omega) (by first | assumption | omega) (by first | assumption | omega)
          try have := bd_m2 (by first | assumption | omega) (by first | assumption | omega)
          have o11 : (0 : Nat) + h4d1.length ≤ (Col.ints IntKind.i64 h4d1).len := by first | assumption | omega | (simp only [List.length_append, List.length_cons, List.length_nil, List.length_map]; omega) | rfl | (exact Nat.le_refl _) | (simp [Col.len]; done) | (simp_all; done)
          exact Ret.of_run1 mix [(avInts IntKind.i64 (r22.v0 n g j1 j2 k p m f)), (AV.int IntKind.i64 (r22.v1 n g j1 j2 k p m f))] Try.func22 rfl [.ret (AV.int IntKind.i64 (r16.v n g j1 j2 k p)) (r22.h0 n g j1 j2 k p m f), .b false, .b false, .ret (AV.bool (r45a.v g m f)) (r22.h0 n g j1 j2 k p m f), .b false, .ret (AV.sl 3 (r42.v k p).length fun (i : Nat) => AV.agg [AV.int IntKind.i64 (rget (r42.v k p) i).a, AV.int IntKind.i64 (rget (r42.v k p) i).b, AV.int IntKind.i64 (rget (r42.v k p) i).room]) (r22.h0 n g j1 j2 k p m f), .virt [] [(none, 7, 1, Col.ints IntKind.i64 [])], .loop (others 90 [1, 2, 7, 30, 31, 32]) (Exit.exit 0) (L22a.X n g j1 j2 k p m f (L22a.O.e1 h4d0 h4d1)) (L22a.XH n g j1 j2 k p m f (L22a.O.e1 h4d0 h4d1))] (by simp) (by simp) (kmp (by kernel_rfl) (And.intro (r16 (n) (g) o0 (j1) (j2) (k) (p) o1 (r22.h0 n g j1 j2 k p m f)) (And.intro (show (bnot (r16.v n g j1 j2 k p == 0)) = false by rw [h1]; try rfl) (And.intro (show (bnot ((↑m : Int) == (↑n : Int))) = false by rw [h2]; try rfl) (And.intro (r45a (n) (g) o0 (j1) (j2) (k) (p) (m) (f) o2) (And.intro (show (bnot (r45a.v g m f)) = false by rw [h3]; try rfl) (And.intro (r42 (n) (g) (j1) (j2) (k) (p) o3 (r22.h0 n g j1 j2 k p m f)) (And.intro (And.intro (rfl : AV.snil = AV.snil) (And.intro (rfl : (0 : Nat) = 0) trivial)) (And.intro (L22a.e1 (n) (g) o0 (j1) (j2) (k) (p) o3 (m) (f) o4 o5 o6 o7 o8 o9 (0) ([]) (0) (And.intro (show (0 : Int) ≤ (0 : Int) by first | decide | exact Int.NonNeg.mk _) (And.intro o10 (show (0 : Int) ≤ (0 : Int) by first | decide | exact Int.NonNeg.mk _))) h4d0 h4d1 h4) (And.intro (And.intro (rfl : h4d0 = h4d0) (And.intro (show (1 : Nat) = (1 : Nat) by first | decide | exact Int.NonNeg.mk _) (And.intro o11 (show ((avInts IntKind.i64 h4d1)) = ((avInts IntKind.i64 (r22.v0 n g j1 j2 k p m f))) by first | (simp only [r22.v0, r22.v1, h1, h2, h3, h4, cond_true, cond_false]; done) | (try unfold r22.v0; try unfold r22.v1; try simp only [h1, cond_true, cond_false]; try simp only [h2, cond_true, cond_false]; try simp only [h3, cond_true, cond_false]; try simp only [h4, cond_true, cond_false]; try rfl; done) | rfl)))) (And.intro (show (AV.int IntKind.i64 0) = ((AV.int IntKind.i64 (r22.v1 n g j1 j2 k p m f))) by first | (simp only [r22.v0, r22.v1, h1, h2, h3, h4, cond_true, cond_false]; done) | (try unfold r22.v0; try unfold r22.v1; try simp only [h1, cond_true, cond_false]; try simp only [h2, cond_true, cond_false]; try simp only [h3, cond_true, cond_false]; try simp only [h4, cond_true, cond_false]; try rfl; done) | rfl) trivial))))))))))) h
      | false =>
        exact Ret.val (show (AV.tup [(avInts IntKind.i64 ([] : List Int)), AV.int IntKind.i64 6]) = (AV.tup [(avInts IntKind.i64 (r22.v0 n g j1 j2 k p m f)), (AV.int IntKind.i64 (r22.v1 n g j1 j2 k p m f))]) by first | (simp only [r22.v0, r22.v1, h1, h2, h3, cond_true, cond_false]; done) | (try unfold r22.v0; try unfold r22.v1; try simp only [h1, cond_true, cond_false]; try simp only [h2, cond_true, cond_false]; try simp only [h3, cond_true, cond_false]; try rfl; done) | rfl) (Ret.of_run1 mix [(avInts IntKind.i64 ([] : List Int)), AV.int IntKind.i64 6] Try.func22 rfl [.ret (AV.int IntKind.i64 (r16.v n g j1 j2 k p)) (r22.h0 n g j1 j2 k p m f), .b false, .b false, .ret (AV.bool (r45a.v g m f)) (r22.h0 n g j1 j2 k p m f), .b true] (by simp) (by simp) (kmp (by kernel_rfl) (And.intro (r16 (n) (g) o0 (j1) (j2) (k) (p) o1 (r22.h0 n g j1 j2 k p m f)) (And.intro (show (bnot (r16.v n g j1 j2 k p == 0)) = false by rw [h1]; try rfl) (And.intro (show (bnot ((↑m : Int) == (↑n : Int))) = false by rw [h2]; try rfl) (And.intro (r45a (n) (g) o0 (j1) (j2) (k) (p) (m) (f) o2) (And.intro (show (bnot (r45a.v g m f)) = true by rw [h3]; try rfl) (And.intro (rfl : ((avInts IntKind.i64 ([] : List Int))) = ((avInts IntKind.i64 ([] : List Int)))) (And.intro (rfl : (AV.int IntKind.i64 6) = (AV.int IntKind.i64 6)) trivial)))))))) h)
    | false =>
      have h2p := ne_of_beq_false h2
      exact Ret.val (show (AV.tup [(avInts IntKind.i64 ([] : List Int)), AV.int IntKind.i64 1]) = (AV.tup [(avInts IntKind.i64 (r22.v0 n g j1 j2 k p m f)), (AV.int IntKind.i64 (r22.v1 n g j1 j2 k p m f))]) by first | (simp only [r22.v0, r22.v1, h1, h2, cond_true, cond_false]; done) | (try unfold r22.v0; try unfold r22.v1; try simp only [h1, cond_true, cond_false]; try simp only [h2, cond_true, cond_false]; try rfl; done) | rfl) (Ret.of_run1 mix [(avInts IntKind.i64 ([] : List Int)), AV.int IntKind.i64 1] Try.func22 rfl [.ret (AV.int IntKind.i64 (r16.v n g j1 j2 k p)) (r22.h0 n g j1 j2 k p m f), .b false, .b true] (by simp) (by simp) (kmp (by kernel_rfl) (And.intro (r16 (n) (g) o0 (j1) (j2) (k) (p) o1 (r22.h0 n g j1 j2 k p m f)) (And.intro (show (bnot (r16.v n g j1 j2 k p == 0)) = false by rw [h1]; try rfl) (And.intro (show (bnot ((↑m : Int) == (↑n : Int))) = true by rw [h2]; try rfl) (And.intro (rfl : ((avInts IntKind.i64 ([] : List Int))) = ((avInts IntKind.i64 ([] : List Int)))) (And.intro (rfl : (AV.int IntKind.i64 1) = (AV.int IntKind.i64 1)) trivial)))))) h)
  | false =>
    have h1p := ne_of_beq_false h1
    exact Ret.val (show (AV.tup [(avInts IntKind.i64 ([] : List Int)), AV.int IntKind.i64 (r16.v n g j1 j2 k p)]) = (AV.tup [(avInts IntKind.i64 (r22.v0 n g j1 j2 k p m f)), (AV.int IntKind.i64 (r22.v1 n g j1 j2 k p m f))]) by first | (simp only [r22.v0, r22.v1, h1, cond_true, cond_false]; done) | (try unfold r22.v0; try unfold r22.v1; try simp only [h1, cond_true, cond_false]; try rfl; done) | rfl) (Ret.of_run1 mix [(avInts IntKind.i64 ([] : List Int)), AV.int IntKind.i64 (r16.v n g j1 j2 k p)] Try.func22 rfl [.ret (AV.int IntKind.i64 (r16.v n g j1 j2 k p)) (r22.h0 n g j1 j2 k p m f), .b true] (by simp) (by simp) (kmp (by kernel_rfl) (And.intro (r16 (n) (g) o0 (j1) (j2) (k) (p) o1 (r22.h0 n g j1 j2 k p m f)) (And.intro (show (bnot (r16.v n g j1 j2 k p == 0)) = true by rw [h1]; try rfl) (And.intro (rfl : ((avInts IntKind.i64 ([] : List Int))) = ((avInts IntKind.i64 ([] : List Int)))) (And.intro (rfl : (AV.int IntKind.i64 (r16.v n g j1 j2 k p)) = (AV.int IntKind.i64 (r16.v n g j1 j2 k p))) trivial))))) h)

inductive L23a.O where
  | e0
  | e1
noncomputable def L23a.T (n : Nat) (g : Nat → PD) (j1 : Int) (j2 : Int) (k : Nat) (p : Nat → PD) (m : Nat) (f : Nat → Int) (m2 : Nat) (f2 : Nat → Int) (a44 : Int) : List AV := mkT 70 [(1, AV.sl 1 m fun (i : Nat) => AV.int IntKind.i64 (f i)), (2, AV.sl 1 m2 fun (i : Nat) => AV.int IntKind.i64 (f2 i)), (42, AV.sl 3 (r42.v k p).length fun (i : Nat) => AV.agg [AV.int IntKind.i64 (rget (r42.v k p) i).a, AV.int IntKind.i64 (rget (r42.v k p) i).b, AV.int IntKind.i64 (rget (r42.v k p) i).room]), (43, AV.int IntKind.i64 (↑(r42.v k p).length : Int)), (44, AV.int IntKind.i64 a44)]
noncomputable def L23a.H (n : Nat) (g : Nat → PD) (j1 : Int) (j2 : Int) (k : Nat) (p : Nat → PD) (m : Nat) (f : Nat → Int) (m2 : Nat) (f2 : Nat → Int) (a44 : Int) : AHeap := [AObj.dead]
def L23a.inv (n : Nat) (g : Nat → PD) (j1 : Int) (j2 : Int) (k : Nat) (p : Nat → PD) (m : Nat) (f : Nat → Int) (m2 : Nat) (f2 : Nat → Int) (a44 : Int) : Prop := 0 ≤ a44 ∧ (a44 ≤ (↑(r42.v k p).length : Int) ∨ a44 ≤ 0)
noncomputable def L23a.mu (n : Nat) (g : Nat → PD) (j1 : Int) (j2 : Int) (k : Nat) (p : Nat → PD) (m : Nat) (f : Nat → Int) (m2 : Nat) (f2 : Nat → Int) (a44 : Int) : Nat := ((↑(r42.v k p).length : Int) - a44).toNat
noncomputable def L23a.E : L23a.O → Exit
  | .e0 => Exit.ret
  | .e1 => Exit.exit 0
noncomputable def L23a.X (n : Nat) (g : Nat → PD) (j1 : Int) (j2 : Int) (k : Nat) (p : Nat → PD) (m : Nat) (f : Nat → Int) (m2 : Nat) (f2 : Nat → Int) : L23a.O → List AV
  | .e0 => mkT 70 [(6, (AV.bool false)), (7, (AV.int IntKind.i64 0))]
  | .e1 => mkT 70 []
noncomputable def L23a.XH (n : Nat) (g : Nat → PD) (j1 : Int) (j2 : Int) (k : Nat) (p : Nat → PD) (m : Nat) (f : Nat → Int) (m2 : Nat) (f2 : Nat → Int) : L23a.O → AHeap
  | .e0 => ([AObj.dead])
  | .e1 => ([AObj.dead])
noncomputable def L23a.N (k : Nat) (p : Nat → PD) (f : Nat → Int) (m2 : Nat) (f2 : Nat → Int) : Nat → Int → L23a.O
  | 0, _ => .e0
  | k_ + 1, a44 => (bif decide (a44 < (↑(r42.v k p).length : Int)) then (bif IntKind.i64.wrap ((r47.v ((rget (r42.v k p) a44.toNat).b.toNat - (rget (r42.v k p) a44.toNat).a.toNat) fun (i : Nat) => f ((rget (r42.v k p) a44.toNat).a.toNat + i)) + r47.v ((if (↑m2 : Int) < (rget (r42.v k p) a44.toNat).b then (↑m2 : Int) else (rget (r42.v k p) a44.toNat).b).toNat - (rget (r42.v k p) a44.toNat).a.toNat) fun (i : Nat) => f2 ((rget (r42.v k p) a44.toNat).a.toNat + i)) == (rget (r42.v k p) a44.toNat).room then (L23a.N k p f m2 f2 k_ (IntKind.i64.wrap (a44 + 1))) else (.e0)) else (.e1))
noncomputable def L23a.run (k : Nat) (p : Nat → PD) (f : Nat → Int) (m2 : Nat) (f2 : Nat → Int) (a44 : Int) : L23a.O := L23a.N k p f m2 f2 ((((↑(r42.v k p).length : Int) - a44).toNat) + 1) a44
def L23a.Next (n : Nat) (g : Nat → PD) (j1 : Int) (j2 : Int) (k : Nat) (p : Nat → PD) (m : Nat) (f : Nat → Int) (m2 : Nat) (f2 : Nat → Int) (k_ : Nat) (z_ : Int) (T_ : List AV) (h_ : AHeap) : Prop := LNextP (fun (z_ : Int) => L23a.T n g j1 j2 k p m f m2 f2 z_) (fun (z_ : Int) => L23a.H n g j1 j2 k p m f m2 f2 z_) (fun (z_ : Int) => L23a.inv n g j1 j2 k p m f m2 f2 z_) (fun (z_ : Int) => L23a.mu n g j1 j2 k p m f m2 f2 z_) (fun (k_ : Nat) (z_ : Int) => L23a.N k p f m2 f2 k_ z_) k_ z_ T_ h_
def L23a.End (n : Nat) (g : Nat → PD) (j1 : Int) (j2 : Int) (k : Nat) (p : Nat → PD) (m : Nat) (f : Nat → Int) (m2 : Nat) (f2 : Nat → Int) (k_ : Nat) (z_ : Int) (e_ : Exit) (T_ : List AV) (h_ : AHeap) : Prop := LEndP (fun (z_ : Int) => L23a.H n g j1 j2 k p m f m2 f2 z_) (fun (k_ : Nat) (z_ : Int) => L23a.N k p f m2 f2 k_ z_) L23a.E (L23a.X n g j1 j2 k p m f m2 f2) (L23a.XH n g j1 j2 k p m f m2 f2) k_ z_ e_ T_ h_
theorem L23a.nx (n : Nat) (g : Nat → PD) (j1 : Int) (j2 : Int) (k : Nat) (p : Nat → PD) (m : Nat) (f : Nat → Int) (m2 : Nat) (f2 : Nat → Int) {k_ : Nat} {z_ : Int} {h_ : AHeap} (s_ : Int) (h1 : L23a.inv n g j1 j2 k p m f m2 f2 s_) (h2 : L23a.mu n g j1 j2 k p m f m2 f2 s_ < L23a.mu n g j1 j2 k p m f m2 f2 z_) (h3 : L23a.N k p f m2 f2 k_ s_ = L23a.N k p f m2 f2 (k_ + 1) z_) (h4 : PopOk (L23a.H n g j1 j2 k p m f m2 f2 z_) h_ (L23a.T n g j1 j2 k p m f m2 f2 s_) (L23a.H n g j1 j2 k p m f m2 f2 s_)) : LNextP (fun (z_ : Int) => L23a.T n g j1 j2 k p m f m2 f2 z_) (fun (z_ : Int) => L23a.H n g j1 j2 k p m f m2 f2 z_) (fun (z_ : Int) => L23a.inv n g j1 j2 k p m f m2 f2 z_) (fun (z_ : Int) => L23a.mu n g j1 j2 k p m f m2 f2 z_) (fun (k_ : Nat) (z_ : Int) => L23a.N k p f m2 f2 k_ z_) k_ z_ (L23a.T n g j1 j2 k p m f m2 f2 s_) h_ := LNextP.mk (Tm := (fun (z_ : Int) => L23a.T n g j1 j2 k p m f m2 f2 z_)) (Hp := (fun (z_ : Int) => L23a.H n g j1 j2 k p m f m2 f2 z_)) (inv := (fun (z_ : Int) => L23a.inv n g j1 j2 k p m f m2 f2 z_)) (mu := (fun (z_ : Int) => L23a.mu n g j1 j2 k p m f m2 f2 z_)) (l := (fun (k_ : Nat) (z_ : Int) => L23a.N k p f m2 f2 k_ z_)) s_ h1 h2 h3 h4
theorem L23a.en (n : Nat) (g : Nat → PD) (j1 : Int) (j2 : Int) (k : Nat) (p : Nat → PD) (m : Nat) (f : Nat → Int) (m2 : Nat) (f2 : Nat → Int) {k_ : Nat} {z_ : Int} {h_ : AHeap} (o_ : L23a.O) (h3 : L23a.N k p f m2 f2 (k_ + 1) z_ = o_) (h4 : PopOk (L23a.H n g j1 j2 k p m f m2 f2 z_) h_ (L23a.X n g j1 j2 k p m f m2 f2 o_) (L23a.XH n g j1 j2 k p m f m2 f2 o_)) : LEndP (fun (z_ : Int) => L23a.H n g j1 j2 k p m f m2 f2 z_) (fun (k_ : Nat) (z_ : Int) => L23a.N k p f m2 f2 k_ z_) L23a.E (L23a.X n g j1 j2 k p m f m2 f2) (L23a.XH n g j1 j2 k p m f m2 f2) k_ z_ (L23a.E o_) (L23a.X n g j1 j2 k p m f m2 f2 o_) h_ := LEndP.mk (Hp := (fun (z_ : Int) => L23a.H n g j1 j2 k p m f m2 f2 z_)) (l := (fun (k_ : Nat) (z_ : Int) => L23a.N k p f m2 f2 k_ z_)) (oE := L23a.E) (oT := L23a.X n g j1 j2 k p m f m2 f2) (oH := L23a.XH n g j1 j2 k p m f m2 f2) o_ h3 h4
noncomputable abbrev L23a.h0 (n : Nat) (g : Nat → PD) (j1 : Int) (j2 : Int) (k : Nat) (p : Nat → PD) (m : Nat) (f : Nat → Int) (m2 : Nat) (f2 : Nat → Int) (a44 : Int) : AHeap := ([AObj.dead, AObj.var (AV.agg [AV.int IntKind.i64 (rget (r42.v k p) a44.toNat).a, AV.int IntKind.i64 (rget (r42.v k p) a44.toNat).b, AV.int IntKind.i64 (rget (r42.v k p) a44.toNat).room])])
theorem L23a.spec (n : Nat) (g : Nat → PD) (hn : n ≤ 9223372036854775807) (j1 : Int) (j2 : Int) (k : Nat) (p : Nat → PD) (hk : k ≤ 30) (m : Nat) (f : Nat → Int) (hm : m ≤ 9223372036854775807) (m2 : Nat) (f2 : Nat → Int) (hm2 : m2 ≤ 9223372036854775807) (k0_1 : (r16.v n g j1 j2 k p == 0) = true) (p0_1 : r16.v n g j1 j2 k p = 0) (k0_2 : ((↑m : Int) == (↑n : Int)) = true) (p0_2 : (↑m : Int) = (↑n : Int)) (k0_3 : ((↑m2 : Int) == IntKind.i64.wrap ((↑n : Int) - 1)) = true) (p0_3 : (↑m2 : Int) = IntKind.i64.wrap ((↑n : Int) - 1)) (k0_4 : r45b.v g m f = true) (k0_5 : r45c.v j1 j2 m2 f2 = true) (k_ : Nat) (z_ : Int) (hi_ : L23a.inv n g j1 j2 k p m f m2 f2 z_) (hm_ : L23a.mu n g j1 j2 k p m f m2 f2 z_ < k_) : LoopTo Try.prog (loopN Try.f23 0) (L23a.T n g j1 j2 k p m f m2 f2 z_) (L23a.H n g j1 j2 k p m f m2 f2 z_) (L23a.E (L23a.N k p f m2 f2 k_ z_)) (L23a.X n g j1 j2 k p m f m2 f2 (L23a.N k p f m2 f2 k_ z_)) (L23a.XH n g j1 j2 k p m f m2 f2 (L23a.N k p f m2 f2 k_ z_)) := by
  refine LoopTo.fuelP mix (fun (z_ : Int) => L23a.T n g j1 j2 k p m f m2 f2 z_) (fun (z_ : Int) => L23a.H n g j1 j2 k p m f m2 f2 z_) (fun (z_ : Int) => L23a.inv n g j1 j2 k p m f m2 f2 z_) (fun (z_ : Int) => L23a.mu n g j1 j2 k p m f m2 f2 z_) (fun (k_ : Nat) (z_ : Int) => L23a.N k p f m2 f2 k_ z_) L23a.E (L23a.X n g j1 j2 k p m f m2 f2) (L23a.XH n g j1 j2 k p m f m2 f2) (others 70 [1, 2, 42, 43, 44]) (others 70 [6, 7]) (others 70 []) ?_ k_ z_ hi_ hm_
  clear hm_ hi_ z_ k_
  intro k_ z_ hinv hmu
  revert hinv hmu; revert z_; intro a44 hinv hmu
  have hinv : 0 ≤ a44 ∧ (a44 ≤ (↑(r42.v k p).length : Int) ∨ a44 ≤ 0) := hinv
  have hmu : (((↑(r42.v k p).length : Int) - a44).toNat) < k_ + 1 := hmu
  cases h1 : decide (a44 < (↑(r42.v k p).length : Int)) with
  | true =>
    have h1p := of_decide_eq_true h1
    try have := bd_parts (by first | assumption | omega) (by first | assumption | omega)
    try have := bd22 (by first | assumption | omega) (by first | assumption | omega) (by first | assumption | omega) (by first | assumption | omega) (by first | assumption | omega)
    try have := bd42 (by first | assumption | omega) (by first | assumption | omega) (by first | assumption | omega)
    try have := bd_m2 (by first | assumption | omega) (by first | assumption | omega)
    have o0 : (0 : Int) ≤ a44 := by first | assumption | omega | (simp_all; done)
    have o1 : a44 < (↑(r42.v k p).length : Int) := by first | assumption | omega | (simp only [List.length_append, List.length_cons, List.length_nil, List.length_map]; omega) | (simp_all; done)
    have o2 : (0 : Int) ≤ (rget (r42.v k p) a44.toNat).a := by first | assumption | omega | (apply hint_a <;> first | assumption | omega) | (simp_all; done)
    have o3 : (rget (r42.v k p) a44.toNat).a ≤ (rget (r42.v k p) a44.toNat).b := by first | assumption | omega | (apply hint_b <;> first | assumption | omega) | (simp_all; done)
    have o4 : (rget (r42.v k p) a44.toNat).b ≤ (↑m : Int) := by first | assumption | omega | (apply hint_c <;> first | assumption | omega) | (simp_all; done)
    have o5 : (rget (r42.v k p) a44.toNat).b.toNat - (rget (r42.v k p) a44.toNat).a.toNat ≤ (9223372036854775807 : Nat) := by first | assumption | omega | (simp_all; done)
    have o6 : (rget (r42.v k p) a44.toNat).a ≤ if (↑m2 : Int) < (rget (r42.v k p) a44.toNat).b then (↑m2 : Int) else (rget (r42.v k p) a44.toNat).b := by first | assumption | omega | (simp_all; done)
    have o7 : (if (↑m2 : Int) < (rget (r42.v k p) a44.toNat).b then (↑m2 : Int) else (rget (r42.v k p) a44.toNat).b) ≤ (↑m2 : Int) := by first | assumption | omega | (simp_all; done)
    have o8 : (if (↑m2 : Int) < (rget (r42.v k p) a44.toNat).b then (↑m2 : Int) else (rget (r42.v k p) a44.toNat).b).toNat - (rget (r42.v k p) a44.toNat).a.toNat ≤ (9223372036854775807 : Nat) := by first | assumption | omega | (simp_all; done)
    cases h2 : IntKind.i64.wrap ((r47.v ((rget (r42.v k p) a44.toNat).b.toNat - (rget (r42.v k p) a44.toNat).a.toNat) fun (i : Nat) => f ((rget (r42.v k p) a44.toNat).a.toNat + i)) + r47.v ((if (↑m2 : Int) < (rget (r42.v k p) a44.toNat).b then (↑m2 : Int) else (rget (r42.v k p) a44.toNat).b).toNat - (rget (r42.v k p) a44.toNat).a.toNat) fun (i : Nat) => f2 ((rget (r42.v k p) a44.toNat).a.toNat + i)) == (rget (r42.v k p) a44.toNat).room with
    | true =>
      have h2p := eq_of_beq h2
      try have := bd_parts (by first | assumption | omega) (by first | assumption | omega)
      try have := bd22 (by first | assumption | omega) (by first | assumption | omega) (by first | assumption | omega) (by first | assumption | omega) (by first | assumption | omega)
      try have := bd42 (by first | assumption | omega) (by first | assumption | omega) (by first | assumption | omega)
      try have := bd_m2 (by first | assumption | omega) (by first | assumption | omega)
      try have := IntWalk.i64_in (a44 + 1) (by omega)
      have o9 : (0 : Int) ≤ IntKind.i64.wrap (a44 + (1 : Int)) := by first | assumption | omega | (simp_all; done)
      have o10 : IntKind.i64.wrap (a44 + (1 : Int)) ≤ (↑(r42.v k p).length : Int) ∨ IntKind.i64.wrap (a44 + (1 : Int)) ≤ (0 : Int) := by first | assumption | omega | (simp only [List.length_append, List.length_cons, List.length_nil, List.length_map]; omega) | (simp_all; done)
      have o11 : ((↑(r42.v k p).length : Int) - IntKind.i64.wrap (a44 + (1 : Int))).toNat < ((↑(r42.v k p).length : Int) - a44).toNat := by first | assumption | omega | (simp only [List.length_append, List.length_cons, List.length_nil, List.length_map]; omega) | (simp_all; done)
      exact ⟨[.b true, .ret (AV.int IntKind.i64 (r47.v ((rget (r42.v k p) a44.toNat).b.toNat - (rget (r42.v k p) a44.toNat).a.toNat) fun (i : Nat) => f ((rget (r42.v k p) a44.toNat).a.toNat + i))) (L23a.h0 n g j1 j2 k p m f m2 f2 a44), .ret (AV.int IntKind.i64 (r47.v ((if (↑m2 : Int) < (rget (r42.v k p) a44.toNat).b then (↑m2 : Int) else (rget (r42.v k p) a44.toNat).b).toNat - (rget (r42.v k p) a44.toNat).a.toNat) fun (i : Nat) => f2 ((rget (r42.v k p) a44.toNat).a.toNat + i))) (L23a.h0 n g j1 j2 k p m f m2 f2 a44), .b false], kmp (by kernel_rfl) (And.intro h1 (And.intro (And.intro o0 o1) (And.intro (And.intro o2 (And.intro o3 o4)) (And.intro (r47 ((rget (r42.v k p) a44.toNat).b.toNat - (rget (r42.v k p) a44.toNat).a.toNat) (fun (i : Nat) => f ((rget (r42.v k p) a44.toNat).a.toNat + i)) o5 (L23a.h0 n g j1 j2 k p m f m2 f2 a44)) (And.intro (And.intro o2 (And.intro o6 o7)) (And.intro (r47 ((if (↑m2 : Int) < (rget (r42.v k p) a44.toNat).b then (↑m2 : Int) else (rget (r42.v k p) a44.toNat).b).toNat - (rget (r42.v k p) a44.toNat).a.toNat) (fun (i : Nat) => f2 ((rget (r42.v k p) a44.toNat).a.toNat + i)) o8 (L23a.h0 n g j1 j2 k p m f m2 f2 a44)) (And.intro (show (bnot (IntKind.i64.wrap ((r47.v ((rget (r42.v k p) a44.toNat).b.toNat - (rget (r42.v k p) a44.toNat).a.toNat) fun (i : Nat) => f ((rget (r42.v k p) a44.toNat).a.toNat + i)) + r47.v ((if (↑m2 : Int) < (rget (r42.v k p) a44.toNat).b then (↑m2 : Int) else (rget (r42.v k p) a44.toNat).b).toNat - (rget (r42.v k p) a44.toNat).a.toNat) fun (i : Nat) => f2 ((rget (r42.v k p) a44.toNat).a.toNat + i)) == (rget (r42.v k p) a44.toNat).room)) = false by rw [h2]; try rfl) (L23a.nx n g j1 j2 k p m f m2 f2 (k_ := k_) (z_ := a44) (h_ := [AObj.dead, AObj.var (AV.agg [AV.int IntKind.i64 (rget (r42.v k p) a44.toNat).a, AV.int IntKind.i64 (rget (r42.v k p) a44.toNat).b, AV.int IntKind.i64 (rget (r42.v k p) a44.toNat).room])]) (IntKind.i64.wrap (a44 + 1)) (And.intro o9 o10) o11 (by first | (simp only [L23a.N, h1, h2, cond_true, cond_false]; done) | (try unfold L23a.N; try simp only [h1, cond_true, cond_false]; try simp only [h2, cond_true, cond_false]; try rfl; done)) (PopOk.pop rfl (by simp [L23a.T, L23a.X, L23a.H, L23a.XH]))))))))))⟩
    | false =>
      have h2p := ne_of_beq_false h2
      exact ⟨[.b true, .ret (AV.int IntKind.i64 (r47.v ((rget (r42.v k p) a44.toNat).b.toNat - (rget (r42.v k p) a44.toNat).a.toNat) fun (i : Nat) => f ((rget (r42.v k p) a44.toNat).a.toNat + i))) (L23a.h0 n g j1 j2 k p m f m2 f2 a44), .ret (AV.int IntKind.i64 (r47.v ((if (↑m2 : Int) < (rget (r42.v k p) a44.toNat).b then (↑m2 : Int) else (rget (r42.v k p) a44.toNat).b).toNat - (rget (r42.v k p) a44.toNat).a.toNat) fun (i : Nat) => f2 ((rget (r42.v k p) a44.toNat).a.toNat + i))) (L23a.h0 n g j1 j2 k p m f m2 f2 a44), .b true], kmp (by kernel_rfl) (And.intro h1 (And.intro (And.intro o0 o1) (And.intro (And.intro o2 (And.intro o3 o4)) (And.intro (r47 ((rget (r42.v k p) a44.toNat).b.toNat - (rget (r42.v k p) a44.toNat).a.toNat) (fun (i : Nat) => f ((rget (r42.v k p) a44.toNat).a.toNat + i)) o5 (L23a.h0 n g j1 j2 k p m f m2 f2 a44)) (And.intro (And.intro o2 (And.intro o6 o7)) (And.intro (r47 ((if (↑m2 : Int) < (rget (r42.v k p) a44.toNat).b then (↑m2 : Int) else (rget (r42.v k p) a44.toNat).b).toNat - (rget (r42.v k p) a44.toNat).a.toNat) (fun (i : Nat) => f2 ((rget (r42.v k p) a44.toNat).a.toNat + i)) o8 (L23a.h0 n g j1 j2 k p m f m2 f2 a44)) (And.intro (show (bnot (IntKind.i64.wrap ((r47.v ((rget (r42.v k p) a44.toNat).b.toNat - (rget (r42.v k p) a44.toNat).a.toNat) fun (i : Nat) => f ((rget (r42.v k p) a44.toNat).a.toNat + i)) + r47.v ((if (↑m2 : Int) < (rget (r42.v k p) a44.toNat).b then (↑m2 : Int) else (rget (r42.v k p) a44.toNat).b).toNat - (rget (r42.v k p) a44.toNat).a.toNat) fun (i : Nat) => f2 ((rget (r42.v k p) a44.toNat).a.toNat + i)) == (rget (r42.v k p) a44.toNat).room)) = true by rw [h2]; try rfl) (L23a.en n g j1 j2 k p m f m2 f2 (k_ := k_) (z_ := a44) (h_ := [AObj.dead, AObj.var (AV.agg [AV.int IntKind.i64 (rget (r42.v k p) a44.toNat).a, AV.int IntKind.i64 (rget (r42.v k p) a44.toNat).b, AV.int IntKind.i64 (rget (r42.v k p) a44.toNat).room])]) (.e0 : L23a.O) (by first | (simp only [L23a.N, h1, h2, cond_true, cond_false]; done) | (try unfold L23a.N; try simp only [h1, cond_true, cond_false]; try simp only [h2, cond_true, cond_false]; try rfl; done)) (PopOk.pop rfl (by simp [L23a.T, L23a.X, L23a.H, L23a.XH]))))))))))⟩
  | false =>
    have h1p := of_decide_eq_false h1
    exact ⟨[.b false], kmp (by kernel_rfl) (And.intro h1 (L23a.en n g j1 j2 k p m f m2 f2 (k_ := k_) (z_ := a44) (.e1 : L23a.O) (by first | (simp only [L23a.N, h1, cond_true, cond_false]; done) | (try unfold L23a.N; try simp only [h1, cond_true, cond_false]; try rfl; done)) PopOk.same))⟩
theorem L23a.e0 (n : Nat) (g : Nat → PD) (hn : n ≤ 9223372036854775807) (j1 : Int) (j2 : Int) (k : Nat) (p : Nat → PD) (hk : k ≤ 30) (m : Nat) (f : Nat → Int) (hm : m ≤ 9223372036854775807) (m2 : Nat) (f2 : Nat → Int) (hm2 : m2 ≤ 9223372036854775807) (k0_1 : (r16.v n g j1 j2 k p == 0) = true) (p0_1 : r16.v n g j1 j2 k p = 0) (k0_2 : ((↑m : Int) == (↑n : Int)) = true) (p0_2 : (↑m : Int) = (↑n : Int)) (k0_3 : ((↑m2 : Int) == IntKind.i64.wrap ((↑n : Int) - 1)) = true) (p0_3 : (↑m2 : Int) = IntKind.i64.wrap ((↑n : Int) - 1)) (k0_4 : r45b.v g m f = true) (k0_5 : r45c.v j1 j2 m2 f2 = true) (a44 : Int) (hinv : L23a.inv n g j1 j2 k p m f m2 f2 a44) (hN : L23a.run k p f m2 f2 a44 = (.e0 : L23a.O)) : LoopTo Try.prog (loopN Try.f23 0) (L23a.T n g j1 j2 k p m f m2 f2 a44) (L23a.H n g j1 j2 k p m f m2 f2 a44) (Exit.ret) (L23a.X n g j1 j2 k p m f m2 f2 (.e0 : L23a.O)) (L23a.XH n g j1 j2 k p m f m2 f2 (.e0 : L23a.O)) := by
  have h_ := L23a.spec n g hn j1 j2 k p hk m f hm m2 f2 hm2 k0_1 p0_1 k0_2 p0_2 k0_3 p0_3 k0_4 k0_5 ((((↑(r42.v k p).length : Int) - a44).toNat) + 1) a44 hinv (Nat.lt_succ_self _)
  unfold L23a.run at hN
  simp only [hN] at h_
  exact h_
theorem L23a.e1 (n : Nat) (g : Nat → PD) (hn : n ≤ 9223372036854775807) (j1 : Int) (j2 : Int) (k : Nat) (p : Nat → PD) (hk : k ≤ 30) (m : Nat) (f : Nat → Int) (hm : m ≤ 9223372036854775807) (m2 : Nat) (f2 : Nat → Int) (hm2 : m2 ≤ 9223372036854775807) (k0_1 : (r16.v n g j1 j2 k p == 0) = true) (p0_1 : r16.v n g j1 j2 k p = 0) (k0_2 : ((↑m : Int) == (↑n : Int)) = true) (p0_2 : (↑m : Int) = (↑n : Int)) (k0_3 : ((↑m2 : Int) == IntKind.i64.wrap ((↑n : Int) - 1)) = true) (p0_3 : (↑m2 : Int) = IntKind.i64.wrap ((↑n : Int) - 1)) (k0_4 : r45b.v g m f = true) (k0_5 : r45c.v j1 j2 m2 f2 = true) (a44 : Int) (hinv : L23a.inv n g j1 j2 k p m f m2 f2 a44) (hN : L23a.run k p f m2 f2 a44 = (.e1 : L23a.O)) : LoopTo Try.prog (loopN Try.f23 0) (L23a.T n g j1 j2 k p m f m2 f2 a44) (L23a.H n g j1 j2 k p m f m2 f2 a44) (Exit.exit 0) (L23a.X n g j1 j2 k p m f m2 f2 (.e1 : L23a.O)) (L23a.XH n g j1 j2 k p m f m2 f2 (.e1 : L23a.O)) := by
  have h_ := L23a.spec n g hn j1 j2 k p hk m f hm m2 f2 hm2 k0_1 p0_1 k0_2 p0_2 k0_3 p0_3 k0_4 k0_5 ((((↑(r42.v k p).length : Int) - a44).toNat) + 1) a44 hinv (Nat.lt_succ_self _)
  unfold L23a.run at hN
  simp only [hN] at h_
  exact h_

noncomputable def r23.v0 (n : Nat) (g : Nat → PD) (j1 : Int) (j2 : Int) (k : Nat) (p : Nat → PD) (m : Nat) (f : Nat → Int) (m2 : Nat) (f2 : Nat → Int) : Bool := (bif r16.v n g j1 j2 k p == 0 then (bif (↑m : Int) == (↑n : Int) then (bif (↑m2 : Int) == IntKind.i64.wrap ((↑n : Int) - 1) then (bif r45b.v g m f then (bif r45c.v j1 j2 m2 f2 then (match L23a.run k p f m2 f2 0 with | .e0 => false | .e1 => true ) else false) else false) else false) else false) else false)
noncomputable def r23.v1 (n : Nat) (g : Nat → PD) (j1 : Int) (j2 : Int) (k : Nat) (p : Nat → PD) (m : Nat) (m2 : Nat) : Int := (bif r16.v n g j1 j2 k p == 0 then (bif (↑m : Int) == (↑n : Int) then (bif (↑m2 : Int) == IntKind.i64.wrap ((↑n : Int) - 1) then 0 else 1) else 1) else r16.v n g j1 j2 k p)
noncomputable abbrev r23.h0 (n : Nat) (g : Nat → PD) (j1 : Int) (j2 : Int) (k : Nat) (p : Nat → PD) (m : Nat) (f : Nat → Int) (m2 : Nat) (f2 : Nat → Int) : AHeap := ([AObj.var (AV.agg [AV.sl 2 n fun (i : Nat) => AV.agg [AV.int IntKind.i64 (g i).lo, AV.int IntKind.i64 (g i).hi], AV.int IntKind.i64 j1, AV.int IntKind.i64 j2, AV.sl 2 k fun (i : Nat) => AV.agg [AV.int IntKind.i64 (p i).lo, AV.int IntKind.i64 (p i).hi]])])
theorem r23 (n : Nat) (g : Nat → PD) (hn : n ≤ 9223372036854775807) (j1 : Int) (j2 : Int) (k : Nat) (p : Nat → PD) (hk : k ≤ 30) (m : Nat) (f : Nat → Int) (hm : m ≤ 9223372036854775807) (m2 : Nat) (f2 : Nat → Int) (hm2 : m2 ≤ 9223372036854775807) (h : AHeap) : Ret Try.prog 23 ([rn n g j1 j2 k p, ivs m f, ivs m2 f2]) h (AV.tup [(AV.bool (r23.v0 n g j1 j2 k p m f m2 f2)), (AV.int IntKind.i64 (r23.v1 n g j1 j2 k p m m2))]) h := by
  try have := bd_parts (by first | assumption | omega) (by first | assumption | omega)
  try have := bd22 (by first | assumption | omega) (by first | assumption | omega) (by first | assumption | omega) (by first | assumption | omega) (by first | assumption | omega)
  try have := bd42 (by first | assumption | omega) (by first | assumption | omega) (by first | assumption | omega)
  try have := bd_m2 (by first | assumption | omega) (by first | assumption | omega)
  have o0 : n ≤ (9223372036854775807 : Nat) := by first | assumption | omega | (simp_all; done)
  have o1 : k ≤ (9223372036854775807 : Nat) := by first | assumption | omega | (simp_all; done)
  cases h1 : r16.v n g j1 j2 k p == 0 with
  | true =>
    have h1p := eq_of_beq h1
    cases h2 : (↑m : Int) == (↑n : Int) with
    | true =>
      have h2p := eq_of_beq h2
      cases h3 : (↑m2 : Int) == IntKind.i64.wrap ((↑n : Int) - 1) with
      | true =>
        have h3p := eq_of_beq h3
        try have := bd_parts (by first | assumption | omega) (by first | assumption | omega)
        try have := bd22 (by first | assumption | omega) (by first | assumption | omega) (by first | assumption | omega) (by first | assumption | omega) (by first | assumption | omega)
        try have := bd42 (by first | assumption | omega) (by first | assumption | omega) (by first | assumption | omega)
        try have := bd_m2 (by first | assumption | omega) (by first | assumption | omega)
        have o2 : m ≤ n := by first | assumption | omega | (simp_all; done)
        cases h4 : r45b.v g m f with
        | true =>
          try have := bd_parts (by first | assumption | omega) (by first | assumption | omega)
          try have := bd22 (by first | assumption | omega) (by first | assumption | omega) (by first | assumption | omega) (by first | assumption | omega) (by first | assumption | omega)
          try have := bd42 (by first | assumption | omega) (by first | assumption | omega) (by first | assumption | omega)
          try have := bd_m2 (by first | assumption | omega) (by first | assumption | omega)
          have o3 : m2 ≤ (9223372036854775807 : Nat) := by first | assumption | omega | (simp_all; done)
          cases h5 : r45c.v j1 j2 m2 f2 with
          | true =>
            try have := bd_parts (by first | assumption | omega) (by first | assumption | omega)
            try have := bd22 (by first | assumption | omega) (by first | assumption | omega) (by first | assumption | omega) (by first | assumption | omega) (by first | assumption | omega)
            try have := bd42 (by first | assumption | omega) (by first | assumption | omega) (by first | assumption | omega)
            try have := bd_m2 (by first | assumption | omega) (by first | assumption | omega)
            have o4 : k ≤ (30 : Nat) := by first | assumption | omega | (simp_all; done)
            have o5 : m ≤ (9223372036854775807 : Nat) := by first | assumption | omega | (simp_all; done)
            have o6 : (r16.v n g j1 j2 k p == (0 : Int)) = true := by first | assumption | omega | (simp_all; done)
            have o7 : r16.v n g j1 j2 k p = (0 : Int) := by first | assumption | omega | (simp_all; done)
            have o8 : ((↑m : Int) == (↑n : Int)) = true := by first | assumption | omega | (simp_all; done)
            have o9 : (↑m : Int) = (↑n : Int) := by first | assumption | omega | (simp_all; done)
            try have := IntWalk.i64_in ((↑n : Int) - 1) (by omega)
            have o10 : ((↑m2 : Int) == IntKind.i64.wrap ((↑n : Int) - (1 : Int))) = true := by first | assumption | omega | (simp_all; done)
            have o11 : (↑m2 : Int) = IntKind.i64.wrap ((↑n : Int) - (1 : Int)) := by first | assumption | omega | (simp_all; done)
            have o12 : r45b.v g m f = true := by first | assumption | omega | (simp_all; done)
            have o13 : r45c.v j1 j2 m2 f2 = true := by first | assumption | omega | (simp_all; done)
            have o14 : (0 : Int) ≤ (↑(r42.v k p).length : Int) ∨ (0 : Int) ≤ (0 : Int) := by first | assumption | omega | (simp only [List.length_append, List.length_cons, List.length_nil, List.length_map]; omega) | (simp_all; done)
            cases h6 : L23a.run k p f m2 f2 0 with
            | e0 =>
              exact Ret.of_run1 mix [(AV.bool (r23.v0 n g j1 j2 k p m f m2 f2)), (AV.int IntKind.i64 (r23.v1 n g j1 j2 k p m m2))] Try.func23 rfl [.ret (AV.int IntKind.i64 (r16.v n g j1 j2 k p)) (r23.h0 n g j1 j2 k p m f m2 f2), .b false, .b false, .b false, .b false, .b false, .b false, .b false, .b false, .b false, .b false, .ret (AV.bool (r45b.v g m f)) (r23.h0 n g j1 j2 k p m f m2 f2), .b false, .b false, .b false, .ret (AV.bool (r45c.v j1 j2 m2 f2)) (r23.h0 n g j1 j2 k p m f m2 f2), .b false, .b false, .b false, .ret (AV.sl 3 (r42.v k p).length fun (i : Nat) => AV.agg [AV.int IntKind.i64 (rget (r42.v k p) i).a, AV.int IntKind.i64 (rget (r42.v k p) i).b, AV.int IntKind.i64 (rget (r42.v k p) i).room]) (r23.h0 n g j1 j2 k p m f m2 f2), .virt [0] [], .loop (others 70 [1, 2, 42, 43, 44]) (Exit.ret) (L23a.X n g j1 j2 k p m f m2 f2 L23a.O.e0) (L23a.XH n g j1 j2 k p m f m2 f2 L23a.O.e0)] (by simp) (by simp) (kmp (by kernel_rfl) (And.intro (r16 (n) (g) o0 (j1) (j2) (k) (p) o1 (r23.h0 n g j1 j2 k p m f m2 f2)) (And.intro (show (bnot (r16.v n g j1 j2 k p == 0)) = false by rw [h1]; try rfl) (And.intro (show (bnot ((↑m : Int) == (↑n : Int))) = false by rw [h2]; try rfl) (And.intro (show (bnot ((↑m : Int) == (↑n : Int))) = false by rw [h2]; try rfl) (And.intro (show (bnot ((↑m : Int) == (↑n : Int))) = false by rw [h2]; try rfl) (And.intro (show (bnot ((↑m : Int) == (↑n : Int))) = false by rw [h2]; try rfl) (And.intro (show (bnot ((↑m : Int) == (↑n : Int))) = false by rw [h2]; try rfl) (And.intro (show (bnot ((↑m : Int) == (↑n : Int))) = false by rw [h2]; try rfl) (And.intro (show (bnot ((↑m : Int) == (↑n : Int))) = false by rw [h2]; try rfl) (And.intro (show (bnot ((↑m : Int) == (↑n : Int))) = false by rw [h2]; try rfl) (And.intro (show (bnot ((↑m2 : Int) == IntKind.i64.wrap ((↑n : Int) - 1))) = false by rw [h3]; try rfl) (And.intro (r45b (n) (g) o0 (j1) (j2) (k) (p) (m) (f) o2) (And.intro (show (bnot (r45b.v g m f)) = false by rw [h4]; try rfl) (And.intro (show (bnot (r45b.v g m f)) = false by rw [h4]; try rfl) (And.intro (show (bnot (r45b.v g m f)) = false by rw [h4]; try rfl) (And.intro (r45c (n) (g) o0 (j1) (j2) (k) (p) (m2) (f2) o3) (And.intro (show (bnot (r45b.v g m f)) = false by rw [h4]; try rfl) (And.intro (show (bnot (r45b.v g m f)) = false by rw [h4]; try rfl) (And.intro (show (bnot (r45c.v j1 j2 m2 f2)) = false by rw [h5]; try rfl) (And.intro (r42 (n) (g) (j1) (j2) (k) (p) o4 (r23.h0 n g j1 j2 k p m f m2 f2)) (And.intro trivial (And.intro (L23a.e0 (n) (g) o0 (j1) (j2) (k) (p) o4 (m) (f) o5 (m2) (f2) o3 o6 o7 o8 o9 o10 o11 o12 o13 (0) (And.intro (show (0 : Int) ≤ (0 : Int) by first | decide | exact Int.NonNeg.mk _) o14) h6) (And.intro (show (AV.bool false) = ((AV.bool (r23.v0 n g j1 j2 k p m f m2 f2))) by first | (simp only [r23.v0, r23.v1, h1, h2, h3, h4, h5, h6, cond_true, cond_false]; done) | (try unfold r23.v0; try unfold r23.v1; try simp only [h1, cond_true, cond_false]; try simp only [h2, cond_true, cond_false]; try simp only [h3, cond_true, cond_false]; try simp only [h4, cond_true, cond_false]; try simp only [h5, cond_true, cond_false]; try simp only [h6, cond_true, cond_false]; try rfl; done) | rfl) (And.intro (show (AV.int IntKind.i64 0) = ((AV.int IntKind.i64 (r23.v1 n g j1 j2 k p m m2))) by first | (simp only [r23.v0, r23.v1, h1, h2, h3, h4, h5, h6, cond_true, cond_false]; done) | (try unfold r23.v0; try unfold r23.v1; try simp only [h1, cond_true, cond_false]; try simp only [h2, cond_true, cond_false]; try simp only [h3, cond_true, cond_false]; try simp only [h4, cond_true, cond_false]; try simp only [h5, cond_true, cond_false]; try simp only [h6, cond_true, cond_false]; try rfl; done) | rfl) trivial))))))))))))))))))))))))) h
            | e1 =>
              exact Ret.of_run1 mix [(AV.bool (r23.v0 n g j1 j2 k p m f m2 f2)), (AV.int IntKind.i64 (r23.v1 n g j1 j2 k p m m2))] Try.func23 rfl [.ret (AV.int IntKind.i64 (r16.v n g j1 j2 k p)) (r23.h0 n g j1 j2 k p m f m2 f2), .b false, .b false, .b false, .b false, .b false, .b false, .b false, .b false, .b false, .b false, .ret (AV.bool (r45b.v g m f)) (r23.h0 n g j1 j2 k p m f m2 f2), .b false, .b false, .b false, .ret (AV.bool (r45c.v j1 j2 m2 f2)) (r23.h0 n g j1 j2 k p m f m2 f2), .b false, .b false, .b false, .ret (AV.sl 3 (r42.v k p).length fun (i : Nat) => AV.agg [AV.int IntKind.i64 (rget (r42.v k p) i).a, AV.int IntKind.i64 (rget (r42.v k p) i).b, AV.int IntKind.i64 (rget (r42.v k p) i).room]) (r23.h0 n g j1 j2 k p m f m2 f2), .virt [0] [], .loop (others 70 [1, 2, 42, 43, 44]) (Exit.exit 0) (L23a.X n g j1 j2 k p m f m2 f2 L23a.O.e1) (L23a.XH n g j1 j2 k p m f m2 f2 L23a.O.e1)] (by simp) (by simp) (kmp (by kernel_rfl) (And.intro (r16 (n) (g) o0 (j1) (j2) (k) (p) o1 (r23.h0 n g j1 j2 k p m f m2 f2)) (And.intro (show (bnot (r16.v n g j1 j2 k p == 0)) = false by rw [h1]; try rfl) (And.intro (show (bnot ((↑m : Int) == (↑n : Int))) = false by rw [h2]; try rfl) (And.intro (show (bnot ((↑m : Int) == (↑n : Int))) = false by rw [h2]; try rfl) (And.intro (show (bnot ((↑m : Int) == (↑n : Int))) = false by rw [h2]; try rfl) (And.intro (show (bnot ((↑m : Int) == (↑n : Int))) = false by rw [h2]; try rfl) (And.intro (show (bnot ((↑m : Int) == (↑n : Int))) = false by rw [h2]; try rfl) (And.intro (show (bnot ((↑m : Int) == (↑n : Int))) = false by rw [h2]; try rfl) (And.intro (show (bnot ((↑m : Int) == (↑n : Int))) = false by rw [h2]; try rfl) (And.intro (show (bnot ((↑m : Int) == (↑n : Int))) = false by rw [h2]; try rfl) (And.intro (show (bnot ((↑m2 : Int) == IntKind.i64.wrap ((↑n : Int) - 1))) = false by rw [h3]; try rfl) (And.intro (r45b (n) (g) o0 (j1) (j2) (k) (p) (m) (f) o2) (And.intro (show (bnot (r45b.v g m f)) = false by rw [h4]; try rfl) (And.intro (show (bnot (r45b.v g m f)) = false by rw [h4]; try rfl) (And.intro (show (bnot (r45b.v g m f)) = false by rw [h4]; try rfl) (And.intro (r45c (n) (g) o0 (j1) (j2) (k) (p) (m2) (f2) o3) (And.intro (show (bnot (r45b.v g m f)) = false by rw [h4]; try rfl) (And.intro (show (bnot (r45b.v g m f)) = false by rw [h4]; try rfl) (And.intro (show (bnot (r45c.v j1 j2 m2 f2)) = false by rw [h5]; try rfl) (And.intro (r42 (n) (g) (j1) (j2) (k) (p) o4 (r23.h0 n g j1 j2 k p m f m2 f2)) (And.intro trivial (And.intro (L23a.e1 (n) (g) o0 (j1) (j2) (k) (p) o4 (m) (f) o5 (m2) (f2) o3 o6 o7 o8 o9 o10 o11 o12 o13 (0) (And.intro (show (0 : Int) ≤ (0 : Int) by first | decide | exact Int.NonNeg.mk _) o14) h6) (And.intro (show (AV.bool true) = ((AV.bool (r23.v0 n g j1 j2 k p m f m2 f2))) by first | (simp only [r23.v0, r23.v1, h1, h2, h3, h4, h5, h6, cond_true, cond_false]; done) | (try unfold r23.v0; try unfold r23.v1; try simp only [h1, cond_true, cond_false]; try simp only [h2, cond_true, cond_false]; try simp only [h3, cond_true, cond_false]; try simp only [h4, cond_true, cond_false]; try simp only [h5, cond_true, cond_false]; try simp only [h6, cond_true, cond_false]; try rfl; done) | rfl) (And.intro (show (AV.int IntKind.i64 0) = ((AV.int IntKind.i64 (r23.v1 n g j1 j2 k p m m2))) by first | (simp only [r23.v0, r23.v1, h1, h2, h3, h4, h5, h6, cond_true, cond_false]; done) | (try unfold r23.v0; try unfold r23.v1; try simp only [h1, cond_true, cond_false]; try simp only [h2, cond_true, cond_false]; try simp only [h3, cond_true, cond_false]; try simp only [h4, cond_true, cond_false]; try simp only [h5, cond_true, cond_false]; try simp only [h6, cond_true, cond_false]; try rfl; done) | rfl) trivial))))))))))))))))))))))))) h
          | false =>
            exact Ret.of_run1 mix [(AV.bool (r23.v0 n g j1 j2 k p m f m2 f2)), (AV.int IntKind.i64 (r23.v1 n g j1 j2 k p m m2))] Try.func23 rfl [.ret (AV.int IntKind.i64 (r16.v n g j1 j2 k p)) (r23.h0 n g j1 j2 k p m f m2 f2), .b false, .b false, .b false, .b false, .b false, .b false, .b false, .b false, .b false, .b false, .ret (AV.bool (r45b.v g m f)) (r23.h0 n g j1 j2 k p m f m2 f2), .b false, .b false, .b false, .ret (AV.bool (r45c.v j1 j2 m2 f2)) (r23.h0 n g j1 j2 k p m f m2 f2), .b false, .b false, .b true] (by simp) (by simp) (kmp (by kernel_rfl) (And.intro (r16 (n) (g) o0 (j1) (j2) (k) (p) o1 (r23.h0 n g j1 j2 k p m f m2 f2)) (And.intro (show (bnot (r16.v n g j1 j2 k p == 0)) = false by rw [h1]; try rfl) (And.intro (show (bnot ((↑m : Int) == (↑n : Int))) = false by rw [h2]; try rfl) (And.intro (show (bnot ((↑m : Int) == (↑n : Int))) = false by rw [h2]; try rfl) (And.intro (show (bnot ((↑m : Int) == (↑n : Int))) = false by rw [h2]; try rfl) (And.intro (show (bnot ((↑m : Int) == (↑n : Int))) = false by rw [h2]; try rfl) (And.intro (show (bnot ((↑m : Int) == (↑n : Int))) = false by rw [h2]; try rfl) (And.intro (show (bnot ((↑m : Int) == (↑n : Int))) = false by rw [h2]; try rfl) (And.intro (show (bnot ((↑m : Int) == (↑n : Int))) = false by rw [h2]; try rfl) (And.intro (show (bnot ((↑m : Int) == (↑n : Int))) = false by rw [h2]; try rfl) (And.intro (show (bnot ((↑m2 : Int) == IntKind.i64.wrap ((↑n : Int) - 1))) = false by rw [h3]; try rfl) (And.intro (r45b (n) (g) o0 (j1) (j2) (k) (p) (m) (f) o2) (And.intro (show (bnot (r45b.v g m f)) = false by rw [h4]; try rfl) (And.intro (show (bnot (r45b.v g m f)) = false by rw [h4]; try rfl) (And.intro (show (bnot (r45b.v g m f)) = false by rw [h4]; try rfl) (And.intro (r45c (n) (g) o0 (j1) (j2) (k) (p) (m2) (f2) o3) (And.intro (show (bnot (r45b.v g m f)) = false by rw [h4]; try rfl) (And.intro (show (bnot (r45b.v g m f)) = false by rw [h4]; try rfl) (And.intro (show (bnot (r45c.v j1 j2 m2 f2)) = true by rw [h5]; try rfl) (And.intro (show (AV.bool false) = ((AV.bool (r23.v0 n g j1 j2 k p m f m2 f2))) by first | (simp only [r23.v0, r23.v1, h1, h2, h3, h4, h5, cond_true, cond_false]; done) | (try unfold r23.v0; try unfold r23.v1; try simp only [h1, cond_true, cond_false]; try simp only [h2, cond_true, cond_false]; try simp only [h3, cond_true, cond_false]; try simp only [h4, cond_true, cond_false]; try simp only [h5, cond_true, cond_false]; try rfl; done) | rfl) (And.intro (show (AV.int IntKind.i64 0) = ((AV.int IntKind.i64 (r23.v1 n g j1 j2 k p m m2))) by first | (simp only [r23.v0, r23.v1, h1, h2, h3, h4, h5, cond_true, cond_false]; done) | (try unfold r23.v0; try unfold r23.v1; try simp only [h1, cond_true, cond_false]; try simp only [h2, cond_true, cond_false]; try simp only [h3, cond_true, cond_false]; try simp only [h4, cond_true, cond_false]; try simp only [h5, cond_true, cond_false]; try rfl; done) | rfl) trivial)))))))))))))))))))))) h
        | false =>
          exact Ret.of_run1 mix [(AV.bool (r23.v0 n g j1 j2 k p m f m2 f2)), (AV.int IntKind.i64 (r23.v1 n g j1 j2 k p m m2))] Try.func23 rfl [.ret (AV.int IntKind.i64 (r16.v n g j1 j2 k p)) (r23.h0 n g j1 j2 k p m f m2 f2), .b false, .b false, .b false, .b false, .b false, .b false, .b false, .b false, .b false, .b false, .ret (AV.bool (r45b.v g m f)) (r23.h0 n g j1 j2 k p m f m2 f2), .b true, .b true, .b true, .b true, .b true, .b true] (by simp) (by simp) (kmp (by kernel_rfl) (And.intro (r16 (n) (g) o0 (j1) (j2) (k) (p) o1 (r23.h0 n g j1 j2 k p m f m2 f2)) (And.intro (show (bnot (r16.v n g j1 j2 k p == 0)) = false by rw [h1]; try rfl) (And.intro (show (bnot ((↑m : Int) == (↑n : Int))) = false by rw [h2]; try rfl) (And.intro (show (bnot ((↑m : Int) == (↑n : Int))) = false by rw [h2]; try rfl) (And.intro (show (bnot ((↑m : Int) == (↑n : Int))) = false by rw [h2]; try rfl) (And.intro (show (bnot ((↑m : Int) == (↑n : Int))) = false by rw [h2]; try rfl) (And.intro (show (bnot ((↑m : Int) == (↑n : Int))) = false by rw [h2]; try rfl) (And.intro (show (bnot ((↑m : Int) == (↑n : Int))) = false by rw [h2]; try rfl) (And.intro (show (bnot ((↑m : Int) == (↑n : Int))) = false by rw [h2]; try rfl) (And.intro (show (bnot ((↑m : Int) == (↑n : Int))) = false by rw [h2]; try rfl) (And.intro (show (bnot ((↑m2 : Int) == IntKind.i64.wrap ((↑n : Int) - 1))) = false by rw [h3]; try rfl) (And.intro (r45b (n) (g) o0 (j1) (j2) (k) (p) (m) (f) o2) (And.intro (show (bnot (r45b.v g m f)) = true by rw [h4]; try rfl) (And.intro (show (bnot (r45b.v g m f)) = true by rw [h4]; try rfl) (And.intro (show (bnot (r45b.v g m f)) = true by rw [h4]; try rfl) (And.intro (show (bnot (r45b.v g m f)) = true by rw [h4]; try rfl) (And.intro (show (bnot (r45b.v g m f)) = true by rw [h4]; try rfl) (And.intro (rfl : true = true) (And.intro (show (AV.bool false) = ((AV.bool (r23.v0 n g j1 j2 k p m f m2 f2))) by first | (simp only [r23.v0, r23.v1, h1, h2, h3, h4, cond_true, cond_false]; done) | (try unfold r23.v0; try unfold r23.v1; try simp only [h1, cond_true, cond_false]; try simp only [h2, cond_true, cond_false]; try simp only [h3, cond_true, cond_false]; try simp only [h4, cond_true, cond_false]; try rfl; done) | rfl) (And.intro (show (AV.int IntKind.i64 0) = ((AV.int IntKind.i64 (r23.v1 n g j1 j2 k p m m2))) by first | (simp only [r23.v0, r23.v1, h1, h2, h3, h4, cond_true, cond_false]; done) | (try unfold r23.v0; try unfold r23.v1; try simp only [h1, cond_true, cond_false]; try simp only [h2, cond_true, cond_false]; try simp only [h3, cond_true, cond_false]; try simp only [h4, cond_true, cond_false]; try rfl; done) | rfl) trivial))))))))))))))))))))) h
      | false =>
        have h3p := ne_of_beq_false h3
        exact Ret.of_run1 mix [(AV.bool (r23.v0 n g j1 j2 k p m f m2 f2)), (AV.int IntKind.i64 (r23.v1 n g j1 j2 k p m m2))] Try.func23 rfl [.ret (AV.int IntKind.i64 (r16.v n g j1 j2 k p)) (r23.h0 n g j1 j2 k p m f m2 f2), .b false, .b false, .b false, .b false, .b false, .b false, .b false, .b false, .b false, .b true] (by simp) (by simp) (kmp (by kernel_rfl) (And.intro (r16 (n) (g) o0 (j1) (j2) (k) (p) o1 (r23.h0 n g j1 j2 k p m f m2 f2)) (And.intro (show (bnot (r16.v n g j1 j2 k p == 0)) = false by rw [h1]; try rfl) (And.intro (show (bnot ((↑m : Int) == (↑n : Int))) = false by rw [h2]; try rfl) (And.intro (show (bnot ((↑m : Int) == (↑n : Int))) = false by rw [h2]; try rfl) (And.intro (show (bnot ((↑m : Int) == (↑n : Int))) = false by rw [h2]; try rfl) (And.intro (show (bnot ((↑m : Int) == (↑n : Int))) = false by rw [h2]; try rfl) (And.intro (show (bnot ((↑m : Int) == (↑n : Int))) = false by rw [h2]; try rfl) (And.intro (show (bnot ((↑m : Int) == (↑n : Int))) = false by rw [h2]; try rfl) (And.intro (show (bnot ((↑m : Int) == (↑n : Int))) = false by rw [h2]; try rfl) (And.intro (show (bnot ((↑m : Int) == (↑n : Int))) = false by rw [h2]; try rfl) (And.intro (show (bnot ((↑m2 : Int) == IntKind.i64.wrap ((↑n : Int) - 1))) = true by rw [h3]; try rfl) (And.intro (show (AV.bool false) = ((AV.bool (r23.v0 n g j1 j2 k p m f m2 f2))) by first | (simp only [r23.v0, r23.v1, h1, h2, h3, cond_true, cond_false]; done) | (try unfold r23.v0; try unfold r23.v1; try simp only [h1, cond_true, cond_false]; try simp only [h2, cond_true, cond_false]; try simp only [h3, cond_true, cond_false]; try rfl; done) | rfl) (And.intro (show (AV.int IntKind.i64 1) = ((AV.int IntKind.i64 (r23.v1 n g j1 j2 k p m m2))) by first | (simp only [r23.v0, r23.v1, h1, h2, h3, cond_true, cond_false]; done) | (try unfold r23.v0; try unfold r23.v1; try simp only [h1, cond_true, cond_false]; try simp only [h2, cond_true, cond_false]; try simp only [h3, cond_true, cond_false]; try rfl; done) | rfl) trivial)))))))))))))) h
    | false =>
      have h2p := ne_of_beq_false h2
      exact Ret.of_run1 mix [(AV.bool (r23.v0 n g j1 j2 k p m f m2 f2)), (AV.int IntKind.i64 (r23.v1 n g j1 j2 k p m m2))] Try.func23 rfl [.ret (AV.int IntKind.i64 (r16.v n g j1 j2 k p)) (r23.h0 n g j1 j2 k p m f m2 f2), .b false, .b true, .b true, .b true, .b true, .b true, .b true, .b true, .b true, .b true] (by simp) (by simp) (kmp (by kernel_rfl) (And.intro (r16 (n) (g) o0 (j1) (j2) (k) (p) o1 (r23.h0 n g j1 j2 k p m f m2 f2)) (And.intro (show (bnot (r16.v n g j1 j2 k p == 0)) = false by rw [h1]; try rfl) (And.intro (show (bnot ((↑m : Int) == (↑n : Int))) = true by rw [h2]; try rfl) (And.intro (show (bnot ((↑m : Int) == (↑n : Int))) = true by rw [h2]; try rfl) (And.intro (show (bnot ((↑m : Int) == (↑n : Int))) = true by rw [h2]; try rfl) (And.intro (show (bnot ((↑m : Int) == (↑n : Int))) = true by rw [h2]; try rfl) (And.intro (show (bnot ((↑m : Int) == (↑n : Int))) = true by rw [h2]; try rfl) (And.intro (show (bnot ((↑m : Int) == (↑n : Int))) = true by rw [h2]; try rfl) (And.intro (show (bnot ((↑m : Int) == (↑n : Int))) = true by rw [h2]; try rfl) (And.intro (show (bnot ((↑m : Int) == (↑n : Int))) = true by rw [h2]; try rfl) (And.intro (rfl : true = true) (And.intro (show (AV.bool false) = ((AV.bool (r23.v0 n g j1 j2 k p m f m2 f2))) by first | (simp only [r23.v0, r23.v1, h1, h2, cond_true, cond_false]; done) | (try unfold r23.v0; try unfold r23.v1; try simp only [h1, cond_true, cond_false]; try simp only [h2, cond_true, cond_false]; try rfl; done) | rfl) (And.intro (show (AV.int IntKind.i64 1) = ((AV.int IntKind.i64 (r23.v1 n g j1 j2 k p m m2))) by first | (simp only [r23.v0, r23.v1, h1, h2, cond_true, cond_false]; done) | (try unfold r23.v0; try unfold r23.v1; try simp only [h1, cond_true, cond_false]; try simp only [h2, cond_true, cond_false]; try rfl; done) | rfl) trivial)))))))))))))) h
  | false =>
    have h1p := ne_of_beq_false h1
    exact Ret.of_run1 mix [(AV.bool (r23.v0 n g j1 j2 k p m f m2 f2)), (AV.int IntKind.i64 (r23.v1 n g j1 j2 k p m m2))] Try.func23 rfl [.ret (AV.int IntKind.i64 (r16.v n g j1 j2 k p)) (r23.h0 n g j1 j2 k p m f m2 f2), .b true] (by simp) (by simp) (kmp (by kernel_rfl) (And.intro (r16 (n) (g) o0 (j1) (j2) (k) (p) o1 (r23.h0 n g j1 j2 k p m f m2 f2)) (And.intro (show (bnot (r16.v n g j1 j2 k p == 0)) = true by rw [h1]; try rfl) (And.intro (show (AV.bool false) = ((AV.bool (r23.v0 n g j1 j2 k p m f m2 f2))) by first | (simp only [r23.v0, r23.v1, h1, cond_true, cond_false]; done) | (try unfold r23.v0; try unfold r23.v1; try simp only [h1, cond_true, cond_false]; try rfl; done) | rfl) (And.intro (show (AV.int IntKind.i64 (r16.v n g j1 j2 k p)) = ((AV.int IntKind.i64 (r23.v1 n g j1 j2 k p m m2))) by first | (simp only [r23.v0, r23.v1, h1, cond_true, cond_false]; done) | (try unfold r23.v0; try unfold r23.v1; try simp only [h1, cond_true, cond_false]; try rfl; done) | rfl) trivial))))) h

end Go.Proofs.Ytjdakdjgkpfjkaa

/- Plain laws: what Joints and Meets hand back. Conditions: none. -/
open Go
namespace Go.Proofs.Ytjdakdjgkpfjkaa
set_option linter.unusedVariables false
set_option linter.unusedSimpArgs false
variable {n k : Nat} {g p : Nat → PD} {j1 j2 : Int} {f f2 : Nat → Int}

/-- What is left of a part's room. -/
def lft (p : Nat → PD) (f : Nat → Int) (i : Nat) : Int := prm p i - sumB f (pa p i) (pb p i - pa p i)
def jb (n : Nat) (p : Nat → PD) (i : Nat) : Int := jn n (pa p i) (pb p i)
def badJ (n : Nat) (j1 j2 : Int) (p : Nat → PD) (f : Nat → Int) (i : Nat) : Bool := decide (lft p f i < jb n p i * j1) || decide (lft p f i > jb n p i * j2)
/-- The widths of a part. -/
def wdt (q j : Int) (x : Nat) : Int := if (x : Int) < q.tmod j then q.tdiv j + 1 else q.tdiv j
def wL (n : Nat) (p : Nat → PD) (f : Nat → Int) (i : Nat) : List Int := (List.range' 0 (jb n p i).toNat).map (wdt (lft p f i) (jb n p i))
def wLs (n : Nat) (p : Nat → PD) (f : Nat → Int) (u : Nat) : Nat → List Int
  | 0 => []
  | c + 1 => wL n p f u ++ wLs n p f (u + 1) c

theorem sumB_shift (f : Nat → Int) (u : Nat) : ∀ c, sumB (fun i => f (u + i)) 0 c = sumB f u c := by
  intro c
  induction c with
  | zero => rfl
  | succ c ih => simp only [sumB, ih, Nat.zero_add]

theorem sumB_abs {f : Nat → Int} {u : Nat} {b : Int} : ∀ c, (∀ i, u ≤ i → i < u + c → 0 ≤ f i ∧ f i ≤ b) → c ≤ 512 → b ≤ 1000000 → 0 ≤ sumB f u c ∧ sumB f u c ≤ 512000000 := by
  intro c h hc hb
  have := sumB_bd (f := f) (u := u) (b := 1000000) c fun i a d => by have := h i a d; omega
  omega

theorem r47_eq {f : Nat → Int} {m : Nat} (hm : m ≤ 512) (hf : ∀ i, i < m → 0 ≤ f i ∧ f i ≤ 1000000) : r47.v m f = sumB f 0 m := by
  have key : ∀ q c, c ≤ m → m - c < q → L47a.N m f q (sumB f 0 c) (c : Int) = .e0 (sumB f 0 m) := by
    intro q
    induction q with
    | zero => intro c _ h; omega
    | succ q ih =>
      intro c hc hq
      simp only [L47a.N, Int.toNat_natCast]
      by_cases h : c < m
      · rw [decide_eq_true (show (c : Int) < (m : Int) by omega), wrap_succ (n := m) (by omega) h]
        simp only [cond_true]
        have b1 := sumB_abs (f := f) (u := 0) (b := 1000000) c (fun i a b => hf i (by omega)) (by omega) (by omega)
        have b3 := hf c h
        rw [i64_small (by omega)]
        have := ih (c + 1) h (by omega)
        simp only [sumB, Nat.zero_add] at this
        exact this
      · obtain rfl : c = m := by omega
        rw [decide_eq_false (by omega)]; rfl
  have e := key (m + 1) 0 (Nat.zero_le _) (by omega)
  have e' : L47a.run m f 0 0 = .e0 (sumB f 0 m) := by simpa [L47a.run, L47a.mu, sumB] using e
  unfold r47.v
  rw [e']

theorem prm_bd (h : ROk n g j1 j2 k p) {i : Nat} (hi : i < k) : -1000000000 ≤ prm p i ∧ prm p i ≤ 1000000000 := by
  have h1 := h.pl.at1 i hi
  have h2 := h.pl.at2 i hi
  unfold prm
  by_cases e : i = 0
  · simp only [e, if_true] at *; omega
  · have h3 := h.pl.at1 (i - 1) (by omega)
    have h4 := h.pl.at2 (i - 1) (by omega)
    rw [if_neg e]; omega

theorem sum_part (h : ROk n g j1 j2 k p) {i : Nat} (hi : i < k) (hf : ∀ i, i < n → 0 ≤ f i ∧ f i ≤ 1000000) : 0 ≤ sumB f (pa p i) (pb p i - pa p i) ∧ sumB f (pa p i) (pb p i - pa p i) ≤ 512000000 := by
  have hab := pab h.pl hi
  have hn := h.le
  exact sumB_abs (b := 1000000) _ (fun j a b => hf j (by omega)) (by omega) (by omega)

theorem lft_bd (h : ROk n g j1 j2 k p) {i : Nat} (hi : i < k) (hf : ∀ i, i < n → 0 ≤ f i ∧ f i ≤ 1000000) : -2000000000 ≤ lft p f i ∧ lft p f i ≤ 1000000000 := by
  have h1 := prm_bd h hi
  have h2 := sum_part h hi hf
  unfold lft; omega

/-- The left-over of a part as the program reckons it. -/
theorem left_eq (h : ROk n g j1 j2 k p) (hk : k ≤ 30) {i : Nat} (hi : i < k) (hf : ∀ i, i < n → 0 ≤ f i ∧ f i ≤ 1000000) :
    IntKind.i64.wrap ((rget (r42.v k p) i).room - r47.v ((rget (r42.v k p) i).b.toNat - (rget (r42.v k p) i).a.toNat) fun (i_1 : Nat) => f ((rget (r42.v k p) i).a.toNat + i_1)) = lft p f i := by
  have ha := pa_eq h.pl hi
  have hb := pb_eq h.pl hi
  have hab := pab h.pl hi
  have hn := h.le
  have hl := lft_bd h hi hf
  rw [part_get h hk hi, ha, hb]
  simp only [Int.toNat_natCast]
  rw [r47_eq (by omega) (fun j hj => hf _ (by omega)), sumB_shift]
  show IntKind.i64.wrap (prm p i - sumB f (pa p i) (pb p i - pa p i)) = _
  unfold lft at hl ⊢
  rw [i64_small (by omega)]

theorem wdt_wrap {q j : Int} (h0 : 0 ≤ q) (h1 : q ≤ 2000000000) (hj : 0 ≤ j) : IntKind.i64.wrap (q.tdiv j) = q.tdiv j ∧ IntKind.i64.wrap (q.tdiv j + 1) = q.tdiv j + 1 := by
  have a : 0 ≤ q.tdiv j := Int.tdiv_nonneg h0 hj
  have b : q.tdiv j ≤ q := by
    rw [Int.tdiv_eq_ediv_of_nonneg h0]
    exact Int.ediv_le_self _ h0
  exact ⟨i64_small (by omega), i64_small (by omega)⟩

theorem range_step {α : Type} (w : Nat → α) {c J : Nat} (h : c < J) : (List.range' c (J - c)).map w = w c :: (List.range' (c + 1) (J - (c + 1))).map w := by
  rw [show J - c = (J - (c + 1)) + 1 by omega, List.range'_succ]; rfl

theorem bad_mul (h : ROk n g j1 j2 k p) {i : Nat} (hi : i < k) : 0 ≤ jb n p i ∧ jb n p i ≤ 512 ∧ 0 ≤ jb n p i * j1 ∧ jb n p i * j1 ≤ 512000 ∧ 0 ≤ jb n p i * j2 ∧ jb n p i * j2 ≤ 512000 := by
  have hab := pab h.pl hi
  have hn := h.le
  have m1 := jn_mul (n := n) (j := j1) hab.1 hab.2 hn h.ja (by have := h.jb; have := h.jc; omega)
  have m2 := jn_mul (n := n) (j := j2) hab.1 hab.2 hn (by have := h.ja; have := h.jb; omega) h.jc
  have m3 := jn_bd hab.1 hab.2 hn
  unfold jb
  omega

/-! ### Joints -/
theorem L22b_run (h : ROk n g j1 j2 k p) (hk : k ≤ 30) {i : Nat} (hi : i < k) (hf : ∀ i, i < n → 0 ≤ f i ∧ f i ≤ 1000000) (h0 : 0 ≤ lft p f i) :
    ∀ m c v l, c ≤ (jb n p i).toNat → (jb n p i).toNat - c < m → ∃ v', L22ab.N n g k p f (i : Int) m v l (c : Int) = .e0 v' (l ++ (List.range' c ((jb n p i).toNat - c)).map (wdt (lft p f i) (jb n p i))) := by
  have hb := bad_mul h hi
  have hl := lft_bd h hi hf
  intro m
  induction m with
  | zero => intro c v l _ h; omega
  | succ m ih =>
    intro c v l hc hm
    have e : r33.v2 n g (rget (r42.v k p) i).a (rget (r42.v k p) i).b = jb n p i := (r33_part h hk hi).2.2
    have e2 := left_eq h hk hi hf
    obtain ⟨w1, w2⟩ := wdt_wrap h0 (by omega) hb.1
    simp only [L22ab.N, Int.toNat_natCast, e, e2, w1, w2]
    by_cases hlt : c < (jb n p i).toNat
    · rw [decide_eq_true (show (c : Int) < jb n p i by omega), wrap_succ (n := (jb n p i).toNat) (by omega) hlt, range_step _ hlt]
      simp only [cond_true]
      by_cases hx : (c : Int) < (lft p f i).tmod (jb n p i)
      · rw [decide_eq_true hx]
        obtain ⟨v', q⟩ := ih (c + 1) (v + 1) (l ++ [(lft p f i).tdiv (jb n p i) + 1]) hlt (by omega)
        refine ⟨v', ?_⟩
        simp only [cond_true]
        rw [q, List.append_assoc]
        simp only [wdt, if_pos hx]; rfl
      · rw [decide_eq_false hx]
        obtain ⟨v', q⟩ := ih (c + 1) (v + 1) (l ++ [(lft p f i).tdiv (jb n p i)]) hlt (by omega)
        refine ⟨v', ?_⟩
        simp only [cond_false]
        rw [q, List.append_assoc]
        simp only [wdt, if_neg hx]; rfl
    · rw [decide_eq_false (by omega), show (jb n p i).toNat - c = 0 by omega]
      exact ⟨v, by simp⟩

theorem L22_run (h : ROk n g j1 j2 k p) (hk : k ≤ 30) (hf : ∀ i, i < n → 0 ≤ f i ∧ f i ≤ 1000000) :
    ∀ m i v l, i ≤ k → k - i < m → ((∃ t, i ≤ t ∧ t < k ∧ badJ n j1 j2 p f t = true) ∧ ∃ a b, L22a.N n g j1 j2 k p f m v l (i : Int) = .e0 a b) ∨
      ((∀ t, i ≤ t → t < k → badJ n j1 j2 p f t = false) ∧ ∃ a, L22a.N n g j1 j2 k p f m v l (i : Int) = .e1 a (l ++ wLs n p f i (k - i))) := by
  intro m
  induction m with
  | zero => intro i v l _ h; omega
  | succ m ih =>
    intro i v l hi hm
    simp only [L22a.N, Int.toNat_natCast, part_len h hk]
    by_cases hlt : i < k
    · have e : r33.v2 n g (rget (r42.v k p) i).a (rget (r42.v k p) i).b = jb n p i := (r33_part h hk hlt).2.2
      have e2 := left_eq h hk hlt hf
      have hb := bad_mul h hlt
      simp only [e, e2]
      rw [decide_eq_true (show (i : Int) < (k : Int) by omega), i64_small (x := jb n p i * j1) (by omega), i64_small (x := jb n p i * j2) (by omega), wrap_succ (n := k) (by omega) hlt]
      simp only [cond_true]
      by_cases c1 : lft p f i < jb n p i * j1
      · simp only [decide_eq_true c1, cond_true]
        exact .inl ⟨⟨i, Nat.le_refl _, hlt, by unfold badJ; simp [c1]⟩, _, _, rfl⟩
      · by_cases c2 : lft p f i > jb n p i * j2
        · simp only [decide_eq_true c2, decide_eq_false c1, cond_true, cond_false]
          exact .inl ⟨⟨i, Nat.le_refl _, hlt, by unfold badJ; simp [c2]⟩, _, _, rfl⟩
        · simp only [decide_eq_false c2, decide_eq_false c1, cond_false]
          obtain ⟨v', q⟩ := L22b_run h hk hlt hf (by omega) ((jb n p i).toNat + 1) 0 v l (Nat.zero_le _) (by omega)
          have q' : L22ab.run n g k p f (i : Int) v l 0 = .e0 v' (l ++ wL n p f i) := by
            simp only [L22ab.run, Int.toNat_natCast, e]
            rw [show (jb n p i - 0).toNat = (jb n p i).toNat by simp]
            exact q
          rw [q']
          have hbf : badJ n j1 j2 p f i = false := by unfold badJ; simp [c1, c2]
          rcases ih (i + 1) v' (l ++ wL n p f i) hlt (by omega) with ⟨⟨t, t1, t2, t3⟩, a, b, q2⟩ | ⟨t1, a, q2⟩
          · exact .inl ⟨⟨t, by omega, t2, t3⟩, a, b, q2⟩
          · refine .inr ⟨fun t a1 a2 => ?_, a, ?_⟩
            · by_cases e4 : t = i
              · rw [e4]; exact hbf
              · exact t1 t (by omega) a2
            · refine q2.trans ?_
              rw [show k - i = (k - (i + 1)) + 1 by omega, wLs, List.append_assoc]
    · rw [decide_eq_false (by omega), show k - i = 0 by omega]
      exact .inr ⟨fun t a1 a2 => by omega, v, by simp [wLs]⟩

/-! ### Lengths within their intervals -/
def okL (g : Nat → PD) (m : Nat) (f : Nat → Int) : Bool := !anyN m fun i => decide (f i < (g i).lo) || decide (f i > (g i).hi)

theorem r45a_eq {m : Nat} (hm : m ≤ 9223372036854775807) : r45a.v g m f = okL g m f := by
  have := search_eq (n := m) (fun i => decide (f i < (g i).lo) || decide (f i > (g i).hi)) (fun _ => L45aa.O.e0) .e1 (N := L45aa.N g m f) (fun k' i h => by
    simp only [L45aa.N, wrap_succ hm h]
    rw [decide_eq_true (show (i : Int) < m by omega)]
    change (bif true then (bif decide (f i < (g i).lo) then L45aa.O.e0 else (bif decide (f i > (g i).hi) then L45aa.O.e0 else L45aa.N g m f k' ((i + 1 : Nat) : Int))) else L45aa.O.e1) = _
    cases decide (f i < (g i).lo) <;> cases decide (f i > (g i).hi) <;> rfl) (fun k => by simp [L45aa.N]) (m + 1) 0 (Nat.zero_le _) (by omega)
  rw [srch_any] at this
  have e : L45aa.run g m f 0 = bif anyN m (fun i => decide (f i < (g i).lo) || decide (f i > (g i).hi)) then .e0 else .e1 := by simpa [L45aa.run, L45aa.mu] using this
  unfold r45a.v okL
  rw [e]
  cases anyN m (fun i => decide (f i < (g i).lo) || decide (f i > (g i).hi)) <;> rfl

theorem r45b_eq {m : Nat} (hm : m ≤ 9223372036854775807) : r45b.v g m f = okL g m f := by
  have := search_eq (n := m) (fun i => decide (f i < (g i).lo) || decide (f i > (g i).hi)) (fun _ => L45ba.O.e0) .e1 (N := L45ba.N g m f) (fun k' i h => by
    simp only [L45ba.N, wrap_succ hm h]
    rw [decide_eq_true (show (i : Int) < m by omega)]
    change (bif true then (bif decide (f i < (g i).lo) then L45ba.O.e0 else (bif decide (f i > (g i).hi) then L45ba.O.e0 else L45ba.N g m f k' ((i + 1 : Nat) : Int))) else L45ba.O.e1) = _
    cases decide (f i < (g i).lo) <;> cases decide (f i > (g i).hi) <;> rfl) (fun k => by simp [L45ba.N]) (m + 1) 0 (Nat.zero_le _) (by omega)
  rw [srch_any] at this
  have e : L45ba.run g m f 0 = bif anyN m (fun i => decide (f i < (g i).lo) || decide (f i > (g i).hi)) then .e0 else .e1 := by simpa [L45ba.run, L45ba.mu] using this
  unfold r45b.v okL
  rw [e]
  cases anyN m (fun i => decide (f i < (g i).lo) || decide (f i > (g i).hi)) <;> rfl

theorem ok_bd (h : ROk n g j1 j2 k p) (ho : okL g n f = true) : ∀ i, i < n → 0 ≤ f i ∧ f i ≤ 1000000 := by
  intro i hi
  have h1 := h.l1 i hi
  have h3 := h.l3 i hi
  have := anyN_false.1 (by simpa [okL] using ho) i hi
  simp only [Bool.or_eq_false_iff, decide_eq_false_iff_not] at this
  omega

/-- What Joints hands back, of a valid run and as many lengths. -/
theorem r22_cases (h : ROk n g j1 j2 k p) (hk : k ≤ 30) (hz : r16.v n g j1 j2 k p = 0) :
    (okL g n f = false ∧ r22.v0 n g j1 j2 k p n f = [] ∧ r22.v1 n g j1 j2 k p n f = 6) ∨
    (okL g n f = true ∧ (∃ t, t < k ∧ badJ n j1 j2 p f t = true) ∧ r22.v0 n g j1 j2 k p n f = [] ∧ r22.v1 n g j1 j2 k p n f = 10) ∨
    (okL g n f = true ∧ (∀ t, t < k → badJ n j1 j2 p f t = false) ∧ r22.v0 n g j1 j2 k p n f = wLs n p f 0 k ∧ r22.v1 n g j1 j2 k p n f = 0) := by
  have hn := h.le
  unfold r22.v0 r22.v1
  rw [hz, r45a_eq (by omega)]
  simp only [beq_self_eq_true, cond_true]
  cases ho : okL g n f with
  | false => exact .inl ⟨rfl, rfl, rfl⟩
  | true =>
    right
    rcases L22_run h hk (ok_bd h ho) (k + 1) 0 0 [] (Nat.zero_le _) (by omega) with ⟨⟨t, t1, t2, t3⟩, a, b, q⟩ | ⟨t1, a, q⟩
    · have q' : L22a.run n g j1 j2 k p f 0 [] 0 = .e0 a b := by simpa [L22a.run, part_len h hk] using q
      rw [q']
      exact .inl ⟨rfl, ⟨t, t2, t3⟩, rfl, rfl⟩
    · have q' : L22a.run n g j1 j2 k p f 0 [] 0 = .e1 a (wLs n p f 0 k) := by simpa [L22a.run, part_len h hk] using q
      rw [q']
      exact .inr ⟨rfl, fun t ht => t1 t (Nat.zero_le _) ht, rfl, rfl⟩

theorem wL_len (h : ROk n g j1 j2 k p) {i : Nat} (hi : i < k) : (wL n p f i).length = (jb n p i).toNat := by
  unfold wL; simp
theorem jb_eq (i : Nat) : jb n p i = (pb p i : Int) - pa p i - (if pb p i = n then 1 else 0) := rfl
/-- One part follows the other. -/
theorem pa_succ (h : ROk n g j1 j2 k p) {i : Nat} (hi : i + 1 < k) : pa p (i + 1) = pb p i := by
  unfold pa pb; simp
theorem pb_last (h : ROk n g j1 j2 k p) {i : Nat} (hi : i < k) : pb p i = n ↔ i + 1 = k := by
  have h1 := h.pl.lo i hi
  constructor
  · intro e
    by_cases hk : i + 1 = k
    · exact hk
    · have h2 := h.pl.inc i (by omega)
      have h3 := h.pl.hi (i + 1) (by omega)
      unfold pb at e
      omega
  · intro e
    have h2 := h.pl.last
    rw [show k - 1 = i by omega] at h2
    unfold pb
    omega
theorem wLs_len (h : ROk n g j1 j2 k p) : ∀ c i, i + c = k → 0 < c → (wLs n p f i c).length + pa p i + 1 = n := by
  intro c
  induction c with
  | zero => intro i _ h0; omega
  | succ c ih =>
    intro i hi _
    have hik : i < k := by omega
    have hb := bad_mul h hik
    have hab := pab h.pl hik
    have hl := pb_last h hik
    have hj := jb_eq (n := n) (p := p) i
    simp only [wLs, List.length_append, wL_len h hik]
    by_cases hc : c = 0
    · subst hc
      have e : pb p i = n := hl.2 (by omega)
      rw [if_pos e] at hj
      simp only [wLs, List.length_nil]
      omega
    · have e : pb p i ≠ n := fun e => hc (by have := hl.1 e; omega)
      rw [if_neg e] at hj
      have := ih (i + 1) (by omega) (by omega)
      rw [pa_succ h (by omega)] at this
      omega
theorem wLs_len0 (h : ROk n g j1 j2 k p) : (wLs n p f 0 k).length + 1 = n := by
  have := wLs_len (f := f) h k 0 (by omega) h.pl.pos
  have e : pa p 0 = 0 := rfl
  omega
theorem bd22len {m : Nat} (h0 : (r22.v1 n g j1 j2 k p m f == 0) = true) (hn : n ≤ 9223372036854775807) (hk : k ≤ 30) : (r22.v0 n g j1 j2 k p m f).length ≤ 512 ∧ (r22.v0 n g j1 j2 k p m f).length + 1 = n ∧ m = n := by
  have h1 := eq_of_beq h0
  cases hz : (r16.v n g j1 j2 k p == 0) with
  | false =>
    have e1 : r22.v1 n g j1 j2 k p m f = r16.v n g j1 j2 k p := by unfold r22.v1; rw [hz]; rfl
    rw [e1] at h1
    rw [h1] at hz; cases hz
  | true =>
    by_cases hmn : m = n
    · subst hmn
      have h := ok_of hn (by omega) hz
      have hl := h.le
      rcases r22_cases (f := f) h hk (eq_of_beq hz) with ⟨_, _, e⟩ | ⟨_, _, _, e⟩ | ⟨_, _, e, _⟩
      · omega
      · omega
      · rw [e]; have := wLs_len0 (f := f) h; omega
    · have hne : ((m : Int) == (n : Int)) = false := beq_eq_false_iff_ne.2 (by omega)
      have e1 : r22.v1 n g j1 j2 k p m f = 1 := by unfold r22.v1; rw [hz, hne]; rfl
      omega

/-! ### Meets -/
def okJ (j1 j2 : Int) (m : Nat) (f : Nat → Int) : Bool := !anyN m fun i => decide (f i < j1) || decide (f i > j2)
def mtB (n : Nat) (p : Nat → PD) (f f2 : Nat → Int) (i : Nat) : Bool := decide (lft p f i = sumB f2 (pa p i) (jb n p i).toNat)

theorem r45c_eq {m : Nat} (hm : m ≤ 9223372036854775807) : r45c.v j1 j2 m f = okJ j1 j2 m f := by
  have := search_eq (n := m) (fun i => decide (f i < j1) || decide (f i > j2)) (fun _ => L45ca.O.e0) .e1 (N := L45ca.N j1 j2 m f) (fun k' i h => by
    simp only [L45ca.N, wrap_succ hm h, Int.toNat_natCast]
    rw [decide_eq_true (show (i : Int) < m by omega)]
    cases decide (f i < j1) <;> cases decide (f i > j2) <;> rfl) (fun k => by simp [L45ca.N]) (m + 1) 0 (Nat.zero_le _) (by omega)
  rw [srch_any] at this
  have e : L45ca.run j1 j2 m f 0 = bif anyN m (fun i => decide (f i < j1) || decide (f i > j2)) then .e0 else .e1 := by simpa [L45ca.run, L45ca.mu] using this
  unfold r45c.v okJ
  rw [e]
  cases anyN m (fun i => decide (f i < j1) || decide (f i > j2)) <;> rfl

theorem okJ_bd (h : ROk n g j1 j2 k p) {m : Nat} (ho : okJ j1 j2 m f = true) : ∀ i, i < m → 0 ≤ f i ∧ f i ≤ 1000000 := by
  intro i hi
  have h1 := h.ja
  have h3 := h.jc
  have := anyN_false.1 (by simpa [okJ] using ho) i hi
  simp only [Bool.or_eq_false_iff, decide_eq_false_iff_not] at this
  omega

theorem jb_fit (h : ROk n g j1 j2 k p) {i : Nat} (hi : i < k) : pa p i + (jb n p i).toNat ≤ n - 1 ∧ ((jb n p i).toNat : Int) = jb n p i ∧ (if pb p i = n then n - 1 else pb p i) = pa p i + (jb n p i).toNat := by
  have hb := bad_mul h hi
  have hab := pab h.pl hi
  have hj := jb_eq (n := n) (p := p) i
  split at hj
  · rw [if_pos (by assumption)]; omega
  · rw [if_neg (by assumption)]; omega

theorem L23_run (h : ROk n g j1 j2 k p) (hk : k ≤ 30) (hf : ∀ i, i < n → 0 ≤ f i ∧ f i ≤ 1000000) (hf2 : ∀ i, i < n - 1 → 0 ≤ f2 i ∧ f2 i ≤ 1000000) : L23a.run k p f (n - 1) f2 0 = bif anyN k (fun i => !mtB n p f f2 i) then .e0 else .e1 := by
  have := search_eq (n := k) (fun i => !mtB n p f f2 i) (fun _ => L23a.O.e0) .e1 (N := L23a.N k p f (n - 1) f2) (fun k' i hi => by
    have hab := pab h.pl hi
    have hn := h.le
    have hjf := jb_fit h hi
    have hb := bad_mul h hi
    have ha := pa_eq h.pl hi
    have hb' := pb_eq h.pl hi
    have hs := sum_part h hi hf
    have hs2 := sumB_abs (f := f2) (u := pa p i) (b := 1000000) (jb n p i).toNat (fun j a b => hf2 j (by omega)) (by omega) (by omega)
    simp only [L23a.N, wrap_succ (n := k) (by omega) hi, Int.toNat_natCast, part_get h hk hi, part_len h hk]
    rw [decide_eq_true (show (i : Int) < k by omega), ha, hb']
    simp only [Int.toNat_natCast, cond_true]
    have hmin : (if ((n - 1 : Nat) : Int) < ((pb p i : Nat) : Int) then ((n - 1 : Nat) : Int) else ((pb p i : Nat) : Int)).toNat - pa p i = (jb n p i).toNat := by
      have h3 := hjf.2.2
      split at h3 <;> split <;> omega
    rw [hmin, r47_eq (by omega) (fun j hj => hf _ (by omega)), r47_eq (by omega) (fun j hj => hf2 _ (by omega)), sumB_shift, sumB_shift, i64_small (by omega)]
    have e : (sumB f (pa p i) (pb p i - pa p i) + sumB f2 (pa p i) (jb n p i).toNat == (ptB p i).room) = mtB n p f f2 i := by
      unfold mtB lft
      show decide (_ = prm p i) = _
      exact decide_eq_decide.2 ⟨fun a => by omega, fun a => by omega⟩
    rw [e]
    cases mtB n p f f2 i <;> rfl) (fun k' => by simp only [L23a.N]; rw [part_len h hk]; simp) (k + 1) 0 (Nat.zero_le _) (by omega)
  rw [srch_any] at this
  simpa [L23a.run, L23a.mu, part_len h hk] using this

def meets (n : Nat) (g : Nat → PD) (j1 j2 : Int) (k : Nat) (p : Nat → PD) (f f2 : Nat → Int) : Bool := okL g n f && (okJ j1 j2 (n - 1) f2 && !anyN k fun i => !mtB n p f f2 i)

theorem r23_eq (h : ROk n g j1 j2 k p) (hk : k ≤ 30) (hz : r16.v n g j1 j2 k p = 0) : r23.v0 n g j1 j2 k p n f (n - 1) f2 = meets n g j1 j2 k p f f2 ∧ r23.v1 n g j1 j2 k p n (n - 1) = 0 := by
  have hn := h.le
  have hp := h.pos
  have e : (((n - 1 : Nat) : Int) == IntKind.i64.wrap ((n : Int) - 1)) = true := by
    rw [i64_small (by omega)]; exact beq_iff_eq.2 (by omega)
  unfold r23.v0 r23.v1 meets
  rw [hz, e, r45b_eq (by omega), r45c_eq (by omega)]
  simp only [beq_self_eq_true, cond_true]
  refine ⟨?_, trivial⟩
  cases ho : okL g n f with
  | false => rfl
  | true =>
    cases hj : okJ j1 j2 (n - 1) f2 with
    | false => rfl
    | true =>
      rw [L23_run h hk (ok_bd h ho) (okJ_bd h hj)]
      cases anyN k (fun i => !mtB n p f f2 i) <;> rfl

end Go.Proofs.Ytjdakdjgkpfjkaa
