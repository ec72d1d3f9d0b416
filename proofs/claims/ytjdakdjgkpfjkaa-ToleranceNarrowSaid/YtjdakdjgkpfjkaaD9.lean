/- the tolerance seat's contracts: lists of lengths. -/
import Derived.Test.YtjdakdjgkpfjkaaD8
open Go
namespace Go.Proofs.Ytjdakdjgkpfjkaa
set_option linter.unusedSimpArgs false
set_option linter.unusedVariables false
set_option maxHeartbeats 0
set_option maxRecDepth 100000
def ivs (m : Nat) (f : Nat → Int) : AV := .sl 1 m (fun i => .int .i64 (f i))
@[simp] theorem low_ivs (lo m : Nat) (f : Nat → Int) : Low lo (ivs m f) = True := by unfold ivs; simp
inductive L20ab.O where
  | e0 (a0 : Nat) (a1 : List Int)
noncomputable def L20ab.T (n : Nat) (g : Nat → PD) (j1 : Int) (j2 : Int) (k : Nat) (p : Nat → PD) (a4 : Int) (bv12 : Nat) (bl12 : List Int) (b13 : Int) : List AV := mkT 87 [(1, AV.ptr 0 1 4 0 0), (4, AV.int IntKind.i64 a4), (6, AV.int IntKind.i64 (r43.v1 p a4)), (11, AV.bool (decide (IntKind.i64.wrap (r44.v1 g (r43.v0 p a4) (r43.v1 p a4) + IntKind.i64.wrap (r43.v2 n p a4 * j1)) > r43.v3 p a4))), (12, AV.ms 1 bv12 1 0 bl12.length), (13, AV.int IntKind.i64 b13)]
noncomputable def L20ab.H (n : Nat) (g : Nat → PD) (j1 : Int) (j2 : Int) (k : Nat) (p : Nat → PD) (a4 : Int) (bv12 : Nat) (bl12 : List Int) (b13 : Int) : AHeap := [AObj.var (AV.agg [AV.sl 2 n fun (i : Nat) => AV.agg [AV.int IntKind.i64 (g i).lo, AV.int IntKind.i64 (g i).hi], AV.int IntKind.i64 j1, AV.int IntKind.i64 j2, AV.sl 2 k fun (i : Nat) => AV.agg [AV.int IntKind.i64 (p i).lo, AV.int IntKind.i64 (p i).hi]]), AObj.row 1 bv12 (Col.ints IntKind.i64 bl12)]
def L20ab.inv (n : Nat) (g : Nat → PD) (j1 : Int) (j2 : Int) (k : Nat) (p : Nat → PD) (a4 : Int) (bv12 : Nat) (bl12 : List Int) (b13 : Int) : Prop := r43.v0 p a4 ≤ b13 ∧ (b13 ≤ r43.v1 p a4 ∨ b13 ≤ r43.v0 p a4) ∧ (↑bl12.length : Int) ≤ b13 - r43.v0 p a4
noncomputable def L20ab.mu (n : Nat) (g : Nat → PD) (j1 : Int) (j2 : Int) (k : Nat) (p : Nat → PD) (a4 : Int) (bv12 : Nat) (bl12 : List Int) (b13 : Int) : Nat := (r43.v1 p a4 - b13).toNat
noncomputable def L20ab.E : L20ab.O → Exit
  | .e0 a0 a1 => Exit.exit 2
noncomputable def L20ab.X (n : Nat) (g : Nat → PD) (j1 : Int) (j2 : Int) (k : Nat) (p : Nat → PD) (a4 : Int) : L20ab.O → List AV
  | .e0 a0 a1 => mkT 87 [(4, (AV.int IntKind.i64 a4)), (12, (AV.ms 1 a0 1 0 (List.length a1)))]
noncomputable def L20ab.XH (n : Nat) (g : Nat → PD) (j1 : Int) (j2 : Int) (k : Nat) (p : Nat → PD) (a4 : Int) : L20ab.O → AHeap
  | .e0 a0 a1 => ((AObj.var (AV.agg [AV.sl 2 n fun (i : Nat) => AV.agg [AV.int IntKind.i64 (g i).lo, AV.int IntKind.i64 (g i).hi], AV.int IntKind.i64 j1, AV.int IntKind.i64 j2, AV.sl 2 k fun (i : Nat) => AV.agg [AV.int IntKind.i64 (p i).lo, AV.int IntKind.i64 (p i).hi]])) :: ((AObj.row 1 a0 (Col.ints IntKind.i64 a1)) :: ([])))
noncomputable def L20ab.N (g : Nat → PD) (p : Nat → PD) (a4 : Int) : Nat → Nat → (List Int) → Int → L20ab.O
  | 0, _, _, _ => .e0 default default
  | k_ + 1, bv12, bl12, b13 => (bif decide (b13 < r43.v1 p a4) then (L20ab.N g p a4 k_ (bv12 + 1) (bl12 ++ [(g b13.toNat).hi]) (IntKind.i64.wrap (b13 + 1))) else (.e0 (bv12) (bl12)))
noncomputable def L20ab.run (g : Nat → PD) (p : Nat → PD) (a4 : Int) (bv12 : Nat) (bl12 : List Int) (b13 : Int) : L20ab.O := L20ab.N g p a4 (((r43.v1 p a4 - b13).toNat) + 1) bv12 bl12 b13
def L20ab.Next (n : Nat) (g : Nat → PD) (j1 : Int) (j2 : Int) (k : Nat) (p : Nat → PD) (a4 : Int) (k_ : Nat) (z_ : Nat × (List Int) × Int) (T_ : List AV) (h_ : AHeap) : Prop := LNextP (fun (z_ : Nat × (List Int) × Int) => L20ab.T n g j1 j2 k p a4 z_.1 z_.2.1 z_.2.2) (fun (z_ : Nat × (List Int) × Int) => L20ab.H n g j1 j2 k p a4 z_.1 z_.2.1 z_.2.2) (fun (z_ : Nat × (List Int) × Int) => L20ab.inv n g j1 j2 k p a4 z_.1 z_.2.1 z_.2.2) (fun (z_ : Nat × (List Int) × Int) => L20ab.mu n g j1 j2 k p a4 z_.1 z_.2.1 z_.2.2) (fun (k_ : Nat) (z_ : Nat × (List Int) × Int) => L20ab.N g p a4 k_ z_.1 z_.2.1 z_.2.2) k_ z_ T_ h_
def L20ab.End (n : Nat) (g : Nat → PD) (j1 : Int) (j2 : Int) (k : Nat) (p : Nat → PD) (a4 : Int) (k_ : Nat) (z_ : Nat × (List Int) × Int) (e_ : Exit) (T_ : List AV) (h_ : AHeap) : Prop := LEndP (fun (z_ : Nat × (List Int) × Int) => L20ab.H n g j1 j2 k p a4 z_.1 z_.2.1 z_.2.2) (fun (k_ : Nat) (z_ : Nat × (List Int) × Int) => L20ab.N g p a4 k_ z_.1 z_.2.1 z_.2.2) L20ab.E (L20ab.X n g j1 j2 k p a4) (L20ab.XH n g j1 j2 k p a4) k_ z_ e_ T_ h_
theorem L20ab.nx (n : Nat) (g : Nat → PD) (j1 : Int) (j2 : Int) (k : Nat) (p : Nat → PD) (a4 : Int) {k_ : Nat} {z_ : Nat × (List Int) × Int} {h_ : AHeap} (s_ : Nat × (List Int) × Int) (h1 : L20ab.inv n g j1 j2 k p a4 s_.1 s_.2.1 s_.2.2) (h2 : L20ab.mu n g j1 j2 k p a4 s_.1 s_.2.1 s_.2.2 < L20ab.mu n g j1 j2 k p a4 z_.1 z_.2.1 z_.2.2) (h3 : L20ab.N g p a4 k_ s_.1 s_.2.1 s_.2.2 = L20ab.N g p a4 (k_ + 1) z_.1 z_.2.1 z_.2.2) (h4 : PopOk (L20ab.H n g j1 j2 k p a4 z_.1 z_.2.1 z_.2.2) h_ (L20ab.T n g j1 j2 k p a4 s_.1 s_.2.1 s_.2.2) (L20ab.H n g j1 j2 k p a4 s_.1 s_.2.1 s_.2.2)) : LNextP (fun (z_ : Nat × (List Int) × Int) => L20ab.T n g j1 j2 k p a4 z_.1 z_.2.1 z_.2.2) (fun (z_ : Nat × (List Int) × Int) => L20ab.H n g j1 j2 k p a4 z_.1 z_.2.1 z_.2.2) (fun (z_ : Nat × (List Int) × Int) => L20ab.inv n g j1 j2 k p a4 z_.1 z_.2.1 z_.2.2) (fun (z_ : Nat × (List Int) × Int) => L20ab.mu n g j1 j2 k p a4 z_.1 z_.2.1 z_.2.2) (fun (k_ : Nat) (z_ : Nat × (List Int) × Int) => L20ab.N g p a4 k_ z_.1 z_.2.1 z_.2.2) k_ z_ (L20ab.T n g j1 j2 k p a4 s_.1 s_.2.1 s_.2.2) h_ := LNextP.mk (Tm := (fun (z_ : Nat × (List Int) × Int) => L20ab.T n g j1 j2 k p a4 z_.1 z_.2.1 z_.2.2)) (Hp := (fun (z_ : Nat × (List Int) × Int) => L20ab.H n g j1 j2 k p a4 z_.1 z_.2.1 z_.2.2)) (inv := (fun (z_ : Nat × (List Int) × Int) => L20ab.inv n g j1 j2 k p a4 z_.1 z_.2.1 z_.2.2)) (mu := (fun (z_ : Nat × (List Int) × Int) => L20ab.mu n g j1 j2 k p a4 z_.1 z_.2.1 z_.2.2)) (l := (fun (k_ : Nat) (z_ : Nat × (List Int) × Int) => L20ab.N g p a4 k_ z_.1 z_.2.1 z_.2.2)) s_ h1 h2 h3 h4
theorem L20ab.en (n : Nat) (g : Nat → PD) (j1 : Int) (j2 : Int) (k : Nat) (p : Nat → PD) (a4 : Int) {k_ : Nat} {z_ : Nat × (List Int) × Int} {h_ : AHeap} (o_ : L20ab.O) (h3 : L20ab.N g p a4 (k_ + 1) z_.1 z_.2.1 z_.2.2 = o_) (h4 : PopOk (L20ab.H n g j1 j2 k p a4 z_.1 z_.2.1 z_.2.2) h_ (L20ab.X n g j1 j2 k p a4 o_) (L20ab.XH n g j1 j2 k p a4 o_)) : LEndP (fun (z_ : Nat × (List Int) × Int) => L20ab.H n g j1 j2 k p a4 z_.1 z_.2.1 z_.2.2) (fun (k_ : Nat) (z_ : Nat × (List Int) × Int) => L20ab.N g p a4 k_ z_.1 z_.2.1 z_.2.2) L20ab.E (L20ab.X n g j1 j2 k p a4) (L20ab.XH n g j1 j2 k p a4) k_ z_ (L20ab.E o_) (L20ab.X n g j1 j2 k p a4 o_) h_ := LEndP.mk (Hp := (fun (z_ : Nat × (List Int) × Int) => L20ab.H n g j1 j2 k p a4 z_.1 z_.2.1 z_.2.2)) (l := (fun (k_ : Nat) (z_ : Nat × (List Int) × Int) => L20ab.N g p a4 k_ z_.1 z_.2.1 z_.2.2)) (oE := L20ab.E) (oT := L20ab.X n g j1 j2 k p a4) (oH := L20ab.XH n g j1 j2 k p a4) o_ h3 h4
theorem L20ab.spec (n : Nat) (g : Nat → PD) (hn : n ≤ 9223372036854775807) (j1 : Int) (j2 : Int) (k : Nat) (p : Nat → PD) (hk : k ≤ 30) (hr : ROk n g j1 j2 k p) (a4 : Int) (i20a_0 : 0 ≤ a4) (i20a_1 : a4 ≤ (↑k : Int) ∨ a4 ≤ 0) (k1_1 : decide (a4 < (↑k : Int)) = true) (p1_1 : a4 < (↑k : Int)) (k1_2 : decide (IntKind.i64.wrap (r44.v1 g (r43.v0 p a4) (r43.v1 p a4) + IntKind.i64.wrap (r43.v2 n p a4 * j1)) > r43.v3 p a4) = true) (p1_2 : IntKind.i64.wrap (r44.v1 g (r43.v0 p a4) (r43.v1 p a4) + IntKind.i64.wrap (r43.v2 n p a4 * j1)) > r43.v3 p a4) (k_ : Nat) (z_ : Nat × (List Int) × Int) (hi_ : L20ab.inv n g j1 j2 k p a4 z_.1 z_.2.1 z_.2.2) (hm_ : L20ab.mu n g j1 j2 k p a4 z_.1 z_.2.1 z_.2.2 < k_) : LoopTo Try.prog (loopN Try.f20 1) (L20ab.T n g j1 j2 k p a4 z_.1 z_.2.1 z_.2.2) (L20ab.H n g j1 j2 k p a4 z_.1 z_.2.1 z_.2.2) (L20ab.E (L20ab.N g p a4 k_ z_.1 z_.2.1 z_.2.2)) (L20ab.X n g j1 j2 k p a4 (L20ab.N g p a4 k_ z_.1 z_.2.1 z_.2.2)) (L20ab.XH n g j1 j2 k p a4 (L20ab.N g p a4 k_ z_.1 z_.2.1 z_.2.2)) := by
  refine LoopTo.fuelP mix (fun (z_ : Nat × (List Int) × Int) => L20ab.T n g j1 j2 k p a4 z_.1 z_.2.1 z_.2.2) (fun (z_ : Nat × (List Int) × Int) => L20ab.H n g j1 j2 k p a4 z_.1 z_.2.1 z_.2.2) (fun (z_ : Nat × (List Int) × Int) => L20ab.inv n g j1 j2 k p a4 z_.1 z_.2.1 z_.2.2) (fun (z_ : Nat × (List Int) × Int) => L20ab.mu n g j1 j2 k p a4 z_.1 z_.2.1 z_.2.2) (fun (k_ : Nat) (z_ : Nat × (List Int) × Int) => L20ab.N g p a4 k_ z_.1 z_.2.1 z_.2.2) L20ab.E (L20ab.X n g j1 j2 k p a4) (L20ab.XH n g j1 j2 k p a4) (others 87 [1, 4, 6, 11, 12, 13]) (others 87 [2, 3]) (others 87 [4, 12]) ?_ k_ z_ hi_ hm_
  clear hm_ hi_ z_ k_
  intro k_ z_ hinv hmu
  obtain ⟨bv12, bl12, b13⟩ := z_
  have hinv : r43.v0 p a4 ≤ b13 ∧ (b13 ≤ r43.v1 p a4 ∨ b13 ≤ r43.v0 p a4) ∧ (↑bl12.length : Int) ≤ b13 - r43.v0 p a4 := hinv
  have hmu : ((r43.v1 p a4 - b13).toNat) < k_ + 1 := hmu
  cases h1 : decide (b13 < r43.v1 p a4) with
  | true =>
    have h1p := of_decide_eq_true h1
    try have := bd43 (by first | assumption | omega) (by first | assumption | omega) (by first | assumption | omega) (by first | assumption | omega)
    have o0 : (0 : Int) ≤ b13 := by first | assumption | omega | (simp_all; done)
    have o1 : b13 < (↑n : Int) := by first | assumption | omega | (simp_all; done)
    have o2 : (bl12.length + (1 : Nat)) * (8 : Nat) ≤ (140737488355328 : Nat) := by first | assumption | omega | (simp only [List.length_append, List.length_cons, List.length_nil, List.length_map]; omega) | (simp_all; done)
    have o3 : bl12.length = (Col.ints IntKind.i64 bl12).len := by first | assumption | omega | (simp only [List.length_append, List.length_cons, List.length_nil, List.length_map]; omega) | rfl | (exact Nat.le_refl _) | (simp [Col.len]; done) | (simp_all; done)
    try have := IntWalk.i64_in (b13 + 1) (by omega)
    have o4 : r43.v0 p a4 ≤ IntKind.i64.wrap (b13 + (1 : Int)) := by first | assumption | omega | (simp_all; done)
    have o5 : IntKind.i64.wrap (b13 + (1 : Int)) ≤ r43.v1 p a4 ∨ IntKind.i64.wrap (b13 + (1 : Int)) ≤ r43.v0 p a4 := by first | assumption | omega | (simp_all; done)
    have o6 : (↑(bl12 ++ [(g b13.toNat).hi]).length : Int) ≤ IntKind.i64.wrap (b13 + (1 : Int)) - r43.v0 p a4 := by first | assumption | omega | (simp only [List.length_append, List.length_cons, List.length_nil, List.length_map]; omega) | (simp_all; done)
    have o7 : (r43.v1 p a4 - IntKind.i64.wrap (b13 + (1 : Int))).toNat < (r43.v1 p a4 - b13).toNat := by first | assumption | omega | (simp_all; done)
    exact ⟨[.b true, .b true, .app .one false], kmp (by kernel_rfl) (And.intro h1 (And.intro k1_2 (And.intro (And.intro o0 o1) (And.intro (And.intro (show (1 : Nat) = (1 : Nat) by first | decide | exact Int.NonNeg.mk _) (And.intro (show AppMode.one.needs 1 fun (a : Nat) => (Col.ofList [AV.int IntKind.i64 (g b13.toNat).hi]).get a by first | exact ⟨rfl, rfl⟩ | simp [AppMode.needs]) (And.intro o2 (And.intro (rfl : bv12 = bv12) (And.intro (show (0 : Nat) = (0 : Nat) by first | decide | exact Int.NonNeg.mk _) o3))))) (L20ab.nx n g j1 j2 k p a4 (k_ := k_) (z_ := (bv12, bl12, b13)) ((bv12 + 1, bl12 ++ [(g b13.toNat).hi], IntKind.i64.wrap (b13 + 1))) (And.intro o4 (And.intro o5 o6)) o7 (by first | (simp only [L20ab.N, h1, cond_true, cond_false]; done) | (try unfold L20ab.N; try simp only [h1, cond_true, cond_false]; try rfl; done)) PopOk.same)))))⟩
  | false =>
    have h1p := of_decide_eq_false h1
    exact ⟨[.b false], kmp (by kernel_rfl) (And.intro h1 (L20ab.en n g j1 j2 k p a4 (k_ := k_) (z_ := (bv12, bl12, b13)) (.e0 (bv12) (bl12) : L20ab.O) (by first | (simp only [L20ab.N, h1, cond_true, cond_false]; done) | (try unfold L20ab.N; try simp only [h1, cond_true, cond_false]; try rfl; done)) PopOk.same))⟩
theorem L20ab.e0 (n : Nat) (g : Nat → PD) (hn : n ≤ 9223372036854775807) (j1 : Int) (j2 : Int) (k : Nat) (p : Nat → PD) (hk : k ≤ 30) (hr : ROk n g j1 j2 k p) (a4 : Int) (i20a_0 : 0 ≤ a4) (i20a_1 : a4 ≤ (↑k : Int) ∨ a4 ≤ 0) (k1_1 : decide (a4 < (↑k : Int)) = true) (p1_1 : a4 < (↑k : Int)) (k1_2 : decide (IntKind.i64.wrap (r44.v1 g (r43.v0 p a4) (r43.v1 p a4) + IntKind.i64.wrap (r43.v2 n p a4 * j1)) > r43.v3 p a4) = true) (p1_2 : IntKind.i64.wrap (r44.v1 g (r43.v0 p a4) (r43.v1 p a4) + IntKind.i64.wrap (r43.v2 n p a4 * j1)) > r43.v3 p a4) (bv12 : Nat) (bl12 : List Int) (b13 : Int) (hinv : L20ab.inv n g j1 j2 k p a4 bv12 bl12 b13) (a0 : Nat) (a1 : List Int) (hN : L20ab.run g p a4 bv12 bl12 b13 = (.e0 a0 a1 : L20ab.O)) : LoopTo Try.prog (loopN Try.f20 1) (L20ab.T n g j1 j2 k p a4 bv12 bl12 b13) (L20ab.H n g j1 j2 k p a4 bv12 bl12 b13) (Exit.exit 2) (L20ab.X n g j1 j2 k p a4 (.e0 a0 a1 : L20ab.O)) (L20ab.XH n g j1 j2 k p a4 (.e0 a0 a1 : L20ab.O)) := by
  have h_ := L20ab.spec n g hn j1 j2 k p hk hr a4 i20a_0 i20a_1 k1_1 p1_1 k1_2 p1_2 (((r43.v1 p a4 - b13).toNat) + 1) (bv12, bl12, b13) hinv (Nat.lt_succ_self _)
  unfold L20ab.run at hN
  simp only [hN] at h_
  exact h_
theorem L20ab.len0_1 (g : Nat → PD) (p : Nat → PD) (a4 : Int) : ∀ (m_ : Nat) (bv12 : Nat) (bl12 : List Int) (b13 : Int) (a0_ : Nat) (a1_ : List Int), L20ab.N g p a4 m_ bv12 bl12 b13 = (.e0 a0_ a1_ : L20ab.O) → (a1_).length ≤ (bl12).length + m_ := by
  intro m_
  induction m_ with
  | zero =>
    intro bv12 bl12 b13 a0_ a1_ h_
    simp only [L20ab.N] at h_
    cases h_
    exact Nat.zero_le _
  | succ m_ ih_ =>
    intro bv12 bl12 b13 a0_ a1_ h_
    cases h1 : decide (b13 < r43.v1 p a4) with
    | true =>
      have h1p := of_decide_eq_true h1
      (simp only [L20ab.N, h1, cond_true, cond_false] at h_; first | (have := ih_ _ _ _ _ _ h_; simp only [List.length_append, List.length_cons, List.length_nil] at this; omega) | (cases h_; done) | (cases h_; omega))
    | false =>
      have h1p := of_decide_eq_false h1
      (simp only [L20ab.N, h1, cond_true, cond_false] at h_; first | (have := ih_ _ _ _ _ _ h_; simp only [List.length_append, List.length_cons, List.length_nil] at this; omega) | (cases h_; done) | (cases h_; omega))
theorem L20ab.lenR0_1 (g : Nat → PD) (p : Nat → PD) (a4 : Int) {bv12 : Nat} {bl12 : List Int} {b13 : Int} {a0_ : Nat} {a1_ : List Int} (h_ : L20ab.run g p a4 bv12 bl12 b13 = (.e0 a0_ a1_ : L20ab.O)) : (a1_).length ≤ (bl12).length + (((r43.v1 p a4 - b13).toNat) + 1) := L20ab.len0_1 g p a4 _ bv12 bl12 b13 a0_ a1_ h_

inductive L20abx.O where
  | e0 (a0 : Nat) (a1 : List Int)
noncomputable def L20abx.T (n : Nat) (g : Nat → PD) (j1 : Int) (j2 : Int) (k : Nat) (p : Nat → PD) (a4 : Int) (bv12 : Nat) (bl12 : List Int) (b13 : Int) : List AV := mkT 87 [(1, AV.ptr 0 1 4 0 0), (4, AV.int IntKind.i64 a4), (6, AV.int IntKind.i64 (r43.v1 p a4)), (11, AV.bool (decide (IntKind.i64.wrap (r44.v1 g (r43.v0 p a4) (r43.v1 p a4) + IntKind.i64.wrap (r43.v2 n p a4 * j1)) > r43.v3 p a4))), (12, AV.ms 1 bv12 1 0 bl12.length), (13, AV.int IntKind.i64 b13)]
noncomputable def L20abx.H (n : Nat) (g : Nat → PD) (j1 : Int) (j2 : Int) (k : Nat) (p : Nat → PD) (a4 : Int) (bv12 : Nat) (bl12 : List Int) (b13 : Int) : AHeap := [AObj.var (AV.agg [AV.sl 2 n fun (i : Nat) => AV.agg [AV.int IntKind.i64 (g i).lo, AV.int IntKind.i64 (g i).hi], AV.int IntKind.i64 j1, AV.int IntKind.i64 j2, AV.sl 2 k fun (i : Nat) => AV.agg [AV.int IntKind.i64 (p i).lo, AV.int IntKind.i64 (p i).hi]]), AObj.row 1 bv12 (Col.ints IntKind.i64 bl12)]
def L20abx.inv (n : Nat) (g : Nat → PD) (j1 : Int) (j2 : Int) (k : Nat) (p : Nat → PD) (a4 : Int) (bv12 : Nat) (bl12 : List Int) (b13 : Int) : Prop := r43.v0 p a4 ≤ b13 ∧ (b13 ≤ r43.v1 p a4 ∨ b13 ≤ r43.v0 p a4) ∧ (↑bl12.length : Int) ≤ b13 - r43.v0 p a4
noncomputable def L20abx.mu (n : Nat) (g : Nat → PD) (j1 : Int) (j2 : Int) (k : Nat) (p : Nat → PD) (a4 : Int) (bv12 : Nat) (bl12 : List Int) (b13 : Int) : Nat := (r43.v1 p a4 - b13).toNat
noncomputable def L20abx.E : L20abx.O → Exit
  | .e0 a0 a1 => Exit.exit 2
noncomputable def L20abx.X (n : Nat) (g : Nat → PD) (j1 : Int) (j2 : Int) (k : Nat) (p : Nat → PD) (a4 : Int) : L20abx.O → List AV
  | .e0 a0 a1 => mkT 87 [(4, (AV.int IntKind.i64 a4)), (12, (AV.ms 1 a0 1 0 (List.length a1)))]
noncomputable def L20abx.XH (n : Nat) (g : Nat → PD) (j1 : Int) (j2 : Int) (k : Nat) (p : Nat → PD) (a4 : Int) : L20abx.O → AHeap
  | .e0 a0 a1 => ((AObj.var (AV.agg [AV.sl 2 n fun (i : Nat) => AV.agg [AV.int IntKind.i64 (g i).lo, AV.int IntKind.i64 (g i).hi], AV.int IntKind.i64 j1, AV.int IntKind.i64 j2, AV.sl 2 k fun (i : Nat) => AV.agg [AV.int IntKind.i64 (p i).lo, AV.int IntKind.i64 (p i).hi]])) :: ((AObj.row 1 a0 (Col.ints IntKind.i64 a1)) :: ([])))
noncomputable def L20abx.N (g : Nat → PD) (p : Nat → PD) (a4 : Int) : Nat → Nat → (List Int) → Int → L20abx.O
  | 0, _, _, _ => .e0 default default
  | k_ + 1, bv12, bl12, b13 => (bif decide (b13 < r43.v1 p a4) then (L20abx.N g p a4 k_ (bv12 + 1) (bl12 ++ [(g b13.toNat).lo]) (IntKind.i64.wrap (b13 + 1))) else (.e0 (bv12) (bl12)))
noncomputable def L20abx.run (g : Nat → PD) (p : Nat → PD) (a4 : Int) (bv12 : Nat) (bl12 : List Int) (b13 : Int) : L20abx.O := L20abx.N g p a4 (((r43.v1 p a4 - b13).toNat) + 1) bv12 bl12 b13
def L20abx.Next (n : Nat) (g : Nat → PD) (j1 : Int) (j2 : Int) (k : Nat) (p : Nat → PD) (a4 : Int) (k_ : Nat) (z_ : Nat × (List Int) × Int) (T_ : List AV) (h_ : AHeap) : Prop := LNextP (fun (z_ : Nat × (List Int) × Int) => L20abx.T n g j1 j2 k p a4 z_.1 z_.2.1 z_.2.2) (fun (z_ : Nat × (List Int) × Int) => L20abx.H n g j1 j2 k p a4 z_.1 z_.2.1 z_.2.2) (fun (z_ : Nat × (List Int) × Int) => L20abx.inv n g j1 j2 k p a4 z_.1 z_.2.1 z_.2.2) (fun (z_ : Nat × (List Int) × Int) => L20abx.mu n g j1 j2 k p a4 z_.1 z_.2.1 z_.2.2) (fun (k_ : Nat) (z_ : Nat × (List Int) × Int) => L20abx.N g p a4 k_ z_.1 z_.2.1 z_.2.2) k_ z_ T_ h_
def L20abx.End (n : Nat) (g : Nat → PD) (j1 : Int) (j2 : Int) (k : Nat) (p : Nat → PD) (a4 : Int) (k_ : Nat) (z_ : Nat × (List Int) × Int) (e_ : Exit) (T_ : List AV) (h_ : AHeap) : Prop := LEndP (fun (z_ : Nat × (List Int) × Int) => L20abx.H n g j1 j2 k p a4 z_.1 z_.2.1 z_.2.2) (fun (k_ : Nat) (z_ : Nat × (List Int) × Int) => L20abx.N g p a4 k_ z_.1 z_.2.1 z_.2.2) L20abx.E (L20abx.X n g j1 j2 k p a4) (L20abx.XH n g j1 j2 k p a4) k_ z_ e_ T_ h_
theorem L20abx.nx (n : Nat) (g : Nat → PD) (j1 : Int) (j2 : Int) (k : Nat) (p : Nat → PD) (a4 : Int) {k_ : Nat} {z_ : Nat × (List Int) × Int} {h_ : AHeap} (s_ : Nat × (List Int) × Int) (h1 : L20abx.inv n g j1 j2 k p a4 s_.1 s_.2.1 s_.2.2) (h2 : L20abx.mu n g j1 j2 k p a4 s_.1 s_.2.1 s_.2.2 < L20abx.mu n g j1 j2 k p a4 z_.1 z_.2.1 z_.2.2) (h3 : L20abx.N g p a4 k_ s_.1 s_.2.1 s_.2.2 = L20abx.N g p a4 (k_ + 1) z_.1 z_.2.1 z_.2.2) (h4 : PopOk (L20abx.H n g j1 j2 k p a4 z_.1 z_.2.1 z_.2.2) h_ (L20abx.T n g j1 j2 k p a4 s_.1 s_.2.1 s_.2.2) (L20abx.H n g j1 j2 k p a4 s_.1 s_.2.1 s_.2.2)) : LNextP (fun (z_ : Nat × (List Int) × Int) => L20abx.T n g j1 j2 k p a4 z_.1 z_.2.1 z_.2.2) (fun (z_ : Nat × (List Int) × Int) => L20abx.H n g j1 j2 k p a4 z_.1 z_.2.1 z_.2.2) (fun (z_ : Nat × (List Int) × Int) => L20abx.inv n g j1 j2 k p a4 z_.1 z_.2.1 z_.2.2) (fun (z_ : Nat × (List Int) × Int) => L20abx.mu n g j1 j2 k p a4 z_.1 z_.2.1 z_.2.2) (fun (k_ : Nat) (z_ : Nat × (List Int) × Int) => L20abx.N g p a4 k_ z_.1 z_.2.1 z_.2.2) k_ z_ (L20abx.T n g j1 j2 k p a4 s_.1 s_.2.1 s_.2.2) h_ := LNextP.mk (Tm := (fun (z_ : Nat × (List Int) × Int) => L20abx.T n g j1 j2 k p a4 z_.1 z_.2.1 z_.2.2)) (Hp := (fun (z_ : Nat × (List Int) × Int) => L20abx.H n g j1 j2 k p a4 z_.1 z_.2.1 z_.2.2)) (inv := (fun (z_ : Nat × (List Int) × Int) => L20abx.inv n g j1 j2 k p a4 z_.1 z_.2.1 z_.2.2)) (mu := (fun (z_ : Nat × (List Int) × Int) => L20abx.mu n g j1 j2 k p a4 z_.1 z_.2.1 z_.2.2)) (l := (fun (k_ : Nat) (z_ : Nat × (List Int) × Int) => L20abx.N g p a4 k_ z_.1 z_.2.1 z_.2.2)) s_ h1 h2 h3 h4
theorem L20abx.en (n : Nat) (g : Nat → PD) (j1 : Int) (j2 : Int) (k : Nat) (p : Nat → PD) (a4 : Int) {k_ : Nat} {z_ : Nat × (List Int) × Int} {h_ : AHeap} (o_ : L20abx.O) (h3 : L20abx.N g p a4 (k_ + 1) z_.1 z_.2.1 z_.2.2 = o_) (h4 : PopOk (L20abx.H n g j1 j2 k p a4 z_.1 z_.2.1 z_.2.2) h_ (L20abx.X n g j1 j2 k p a4 o_) (L20abx.XH n g j1 j2 k p a4 o_)) : LEndP (fun (z_ : Nat × (List Int) × Int) => L20abx.H n g j1 j2 k p a4 z_.1 z_.2.1 z_.2.2) (fun (k_ : Nat) (z_ : Nat × (List Int) × Int) => L20abx.N g p a4 k_ z_.1 z_.2.1 z_.2.2) L20abx.E (L20abx.X n g j1 j2 k p a4) (L20abx.XH n g j1 j2 k p a4) k_ z_ (L20abx.E o_) (L20abx.X n g j1 j2 k p a4 o_) h_ := LEndP.mk (Hp := (fun (z_ : Nat × (List Int) × Int) => L20abx.H n g j1 j2 k p a4 z_.1 z_.2.1 z_.2.2)) (l := (fun (k_ : Nat) (z_ : Nat × (List Int) × Int) => L20abx.N g p a4 k_ z_.1 z_.2.1 z_.2.2)) (oE := L20abx.E) (oT := L20abx.X n g j1 j2 k p a4) (oH := L20abx.XH n g j1 j2 k p a4) o_ h3 h4
theorem L20abx.spec (n : Nat) (g : Nat → PD) (hn : n ≤ 9223372036854775807) (j1 : Int) (j2 : Int) (k : Nat) (p : Nat → PD) (hk : k ≤ 30) (hr : ROk n g j1 j2 k p) (a4 : Int) (i20a_0 : 0 ≤ a4) (i20a_1 : a4 ≤ (↑k : Int) ∨ a4 ≤ 0) (k1_1 : decide (a4 < (↑k : Int)) = true) (p1_1 : a4 < (↑k : Int)) (k1_2 : decide (IntKind.i64.wrap (r44.v1 g (r43.v0 p a4) (r43.v1 p a4) + IntKind.i64.wrap (r43.v2 n p a4 * j1)) > r43.v3 p a4) = false) (p1_2 : ¬IntKind.i64.wrap (r44.v1 g (r43.v0 p a4) (r43.v1 p a4) + IntKind.i64.wrap (r43.v2 n p a4 * j1)) > r43.v3 p a4) (k1_3 : decide (IntKind.i64.wrap (r44.v0 g (r43.v0 p a4) (r43.v1 p a4) + IntKind.i64.wrap (r43.v2 n p a4 * j2)) ≥ r43.v3 p a4) = false) (p1_3 : ¬IntKind.i64.wrap (r44.v0 g (r43.v0 p a4) (r43.v1 p a4) + IntKind.i64.wrap (r43.v2 n p a4 * j2)) ≥ r43.v3 p a4) (k_ : Nat) (z_ : Nat × (List Int) × Int) (hi_ : L20abx.inv n g j1 j2 k p a4 z_.1 z_.2.1 z_.2.2) (hm_ : L20abx.mu n g j1 j2 k p a4 z_.1 z_.2.1 z_.2.2 < k_) : LoopTo Try.prog (loopN Try.f20 1) (L20abx.T n g j1 j2 k p a4 z_.1 z_.2.1 z_.2.2) (L20abx.H n g j1 j2 k p a4 z_.1 z_.2.1 z_.2.2) (L20abx.E (L20abx.N g p a4 k_ z_.1 z_.2.1 z_.2.2)) (L20abx.X n g j1 j2 k p a4 (L20abx.N g p a4 k_ z_.1 z_.2.1 z_.2.2)) (L20abx.XH n g j1 j2 k p a4 (L20abx.N g p a4 k_ z_.1 z_.2.1 z_.2.2)) := by
  refine LoopTo.fuelP mix (fun (z_ : Nat × (List Int) × Int) => L20abx.T n g j1 j2 k p a4 z_.1 z_.2.1 z_.2.2) (fun (z_ : Nat × (List Int) × Int) => L20abx.H n g j1 j2 k p a4 z_.1 z_.2.1 z_.2.2) (fun (z_ : Nat × (List Int) × Int) => L20abx.inv n g j1 j2 k p a4 z_.1 z_.2.1 z_.2.2) (fun (z_ : Nat × (List Int) × Int) => L20abx.mu n g j1 j2 k p a4 z_.1 z_.2.1 z_.2.2) (fun (k_ : Nat) (z_ : Nat × (List Int) × Int) => L20abx.N g p a4 k_ z_.1 z_.2.1 z_.2.2) L20abx.E (L20abx.X n g j1 j2 k p a4) (L20abx.XH n g j1 j2 k p a4) (others 87 [1, 4, 6, 11, 12, 13]) (others 87 [2, 3]) (others 87 [4, 12]) ?_ k_ z_ hi_ hm_
  clear hm_ hi_ z_ k_
  intro k_ z_ hinv hmu
  obtain ⟨bv12, bl12, b13⟩ := z_
  have hinv : r43.v0 p a4 ≤ b13 ∧ (b13 ≤ r43.v1 p a4 ∨ b13 ≤ r43.v0 p a4) ∧ (↑bl12.length : Int) ≤ b13 - r43.v0 p a4 := hinv
  have hmu : ((r43.v1 p a4 - b13).toNat) < k_ + 1 := hmu
  cases h1 : decide (b13 < r43.v1 p a4) with
  | true =>
    have h1p := of_decide_eq_true h1
    try have := bd43 (by first | assumption | omega) (by first | assumption | omega) (by first | assumption | omega) (by first | assumption | omega)
    try have := L20ab.lenR0_1 _ _ _ (by assumption); (try simp only [List.length_nil] at this)
    have o0 : (0 : Int) ≤ b13 := by first | assumption | omega | (simp_all; done)
    have o1 : b13 < (↑n : Int) := by first | assumption | omega | (simp_all; done)
    have o2 : (bl12.length + (1 : Nat)) * (8 : Nat) ≤ (140737488355328 : Nat) := by first | assumption | omega | (simp only [List.length_append, List.length_cons, List.length_nil, List.length_map]; omega) | (simp_all; done)
    have o3 : bl12.length = (Col.ints IntKind.i64 bl12).len := by first | assumption | omega | (simp only [List.length_append, List.length_cons, List.length_nil, List.length_map]; omega) | rfl | (exact Nat.le_refl _) | (simp [Col.len]; done) | (simp_all; done)
    try have := IntWalk.i64_in (b13 + 1) (by omega)
    have o4 : r43.v0 p a4 ≤ IntKind.i64.wrap (b13 + (1 : Int)) := by first | assumption | omega | (simp_all; done)
    have o5 : IntKind.i64.wrap (b13 + (1 : Int)) ≤ r43.v1 p a4 ∨ IntKind.i64.wrap (b13 + (1 : Int)) ≤ r43.v0 p a4 := by first | assumption | omega | (simp_all; done)
    have o6 : (↑(bl12 ++ [(g b13.toNat).lo]).length : Int) ≤ IntKind.i64.wrap (b13 + (1 : Int)) - r43.v0 p a4 := by first | assumption | omega | (simp only [List.length_append, List.length_cons, List.length_nil, List.length_map]; omega) | (simp_all; done)
    have o7 : (r43.v1 p a4 - IntKind.i64.wrap (b13 + (1 : Int))).toNat < (r43.v1 p a4 - b13).toNat := by first | assumption | omega | (simp_all; done)
    exact ⟨[.b true, .b false, .app .one false], kmp (by kernel_rfl) (And.intro h1 (And.intro k1_2 (And.intro (And.intro o0 o1) (And.intro (And.intro (show (1 : Nat) = (1 : Nat) by first | decide | exact Int.NonNeg.mk _) (And.intro (show AppMode.one.needs 1 fun (a : Nat) => (Col.ofList [AV.int IntKind.i64 (g b13.toNat).lo]).get a by first | exact ⟨rfl, rfl⟩ | simp [AppMode.needs]) (And.intro o2 (And.intro (rfl : bv12 = bv12) (And.intro (show (0 : Nat) = (0 : Nat) by first | decide | exact Int.NonNeg.mk _) o3))))) (L20abx.nx n g j1 j2 k p a4 (k_ := k_) (z_ := (bv12, bl12, b13)) ((bv12 + 1, bl12 ++ [(g b13.toNat).lo], IntKind.i64.wrap (b13 + 1))) (And.intro o4 (And.intro o5 o6)) o7 (by first | (simp only [L20abx.N, h1, cond_true, cond_false]; done) | (try unfold L20abx.N; try simp only [h1, cond_true, cond_false]; try rfl; done)) PopOk.same)))))⟩
  | false =>
    have h1p := of_decide_eq_false h1
    exact ⟨[.b false], kmp (by kernel_rfl) (And.intro h1 (L20abx.en n g j1 j2 k p a4 (k_ := k_) (z_ := (bv12, bl12, b13)) (.e0 (bv12) (bl12) : L20abx.O) (by first | (simp only [L20abx.N, h1, cond_true, cond_false]; done) | (try unfold L20abx.N; try simp only [h1, cond_true, cond_false]; try rfl; done)) PopOk.same))⟩
theorem L20abx.e0 (n : Nat) (g : Nat → PD) (hn : n ≤ 9223372036854775807) (j1 : Int) (j2 : Int) (k : Nat) (p : Nat → PD) (hk : k ≤ 30) (hr : ROk n g j1 j2 k p) (a4 : Int) (i20a_0 : 0 ≤ a4) (i20a_1 : a4 ≤ (↑k : Int) ∨ a4 ≤ 0) (k1_1 : decide (a4 < (↑k : Int)) = true) (p1_1 : a4 < (↑k : Int)) (k1_2 : decide (IntKind.i64.wrap (r44.v1 g (r43.v0 p a4) (r43.v1 p a4) + IntKind.i64.wrap (r43.v2 n p a4 * j1)) > r43.v3 p a4) = false) (p1_2 : ¬IntKind.i64.wrap (r44.v1 g (r43.v0 p a4) (r43.v1 p a4) + IntKind.i64.wrap (r43.v2 n p a4 * j1)) > r43.v3 p a4) (k1_3 : decide (IntKind.i64.wrap (r44.v0 g (r43.v0 p a4) (r43.v1 p a4) + IntKind.i64.wrap (r43.v2 n p a4 * j2)) ≥ r43.v3 p a4) = false) (p1_3 : ¬IntKind.i64.wrap (r44.v0 g (r43.v0 p a4) (r43.v1 p a4) + IntKind.i64.wrap (r43.v2 n p a4 * j2)) ≥ r43.v3 p a4) (bv12 : Nat) (bl12 : List Int) (b13 : Int) (hinv : L20abx.inv n g j1 j2 k p a4 bv12 bl12 b13) (a0 : Nat) (a1 : List Int) (hN : L20abx.run g p a4 bv12 bl12 b13 = (.e0 a0 a1 : L20abx.O)) : LoopTo Try.prog (loopN Try.f20 1) (L20abx.T n g j1 j2 k p a4 bv12 bl12 b13) (L20abx.H n g j1 j2 k p a4 bv12 bl12 b13) (Exit.exit 2) (L20abx.X n g j1 j2 k p a4 (.e0 a0 a1 : L20abx.O)) (L20abx.XH n g j1 j2 k p a4 (.e0 a0 a1 : L20abx.O)) := by
  have h_ := L20abx.spec n g hn j1 j2 k p hk hr a4 i20a_0 i20a_1 k1_1 p1_1 k1_2 p1_2 k1_3 p1_3 (((r43.v1 p a4 - b13).toNat) + 1) (bv12, bl12, b13) hinv (Nat.lt_succ_self _)
  unfold L20abx.run at hN
  simp only [hN] at h_
  exact h_
theorem L20abx.len0_1 (g : Nat → PD) (p : Nat → PD) (a4 : Int) : ∀ (m_ : Nat) (bv12 : Nat) (bl12 : List Int) (b13 : Int) (a0_ : Nat) (a1_ : List Int), L20abx.N g p a4 m_ bv12 bl12 b13 = (.e0 a0_ a1_ : L20abx.O) → (a1_).length ≤ (bl12).length + m_ := by
  intro m_
  induction m_ with
  | zero =>
    intro bv12 bl12 b13 a0_ a1_ h_
    simp only [L20abx.N] at h_
    cases h_
    exact Nat.zero_le _
  | succ m_ ih_ =>
    intro bv12 bl12 b13 a0_ a1_ h_
    cases h1 : decide (b13 < r43.v1 p a4) with
    | true =>
      have h1p := of_decide_eq_true h1
      (simp only [L20abx.N, h1, cond_true, cond_false] at h_; first | (have := ih_ _ _ _ _ _ h_; simp only [List.length_append, List.length_cons, List.length_nil] at this; omega) | (cases h_; done) | (cases h_; omega))
    | false =>
      have h1p := of_decide_eq_false h1
      (simp only [L20abx.N, h1, cond_true, cond_false] at h_; first | (have := ih_ _ _ _ _ _ h_; simp only [List.length_append, List.length_cons, List.length_nil] at this; omega) | (cases h_; done) | (cases h_; omega))
theorem L20abx.lenR0_1 (g : Nat → PD) (p : Nat → PD) (a4 : Int) {bv12 : Nat} {bl12 : List Int} {b13 : Int} {a0_ : Nat} {a1_ : List Int} (h_ : L20abx.run g p a4 bv12 bl12 b13 = (.e0 a0_ a1_ : L20abx.O)) : (a1_).length ≤ (bl12).length + (((r43.v1 p a4 - b13).toNat) + 1) := L20abx.len0_1 g p a4 _ bv12 bl12 b13 a0_ a1_ h_

inductive L20a.O where
  | e0 (a0 : Int) (a1 : Nat) (a2 : List Int)
  | e1
noncomputable def L20a.T (n : Nat) (g : Nat → PD) (j1 : Int) (j2 : Int) (k : Nat) (p : Nat → PD) (a4 : Int) : List AV := mkT 87 [(1, AV.ptr 0 1 4 0 0), (4, AV.int IntKind.i64 a4)]
noncomputable def L20a.H (n : Nat) (g : Nat → PD) (j1 : Int) (j2 : Int) (k : Nat) (p : Nat → PD) (a4 : Int) : AHeap := [AObj.var (AV.agg [AV.sl 2 n fun (i : Nat) => AV.agg [AV.int IntKind.i64 (g i).lo, AV.int IntKind.i64 (g i).hi], AV.int IntKind.i64 j1, AV.int IntKind.i64 j2, AV.sl 2 k fun (i : Nat) => AV.agg [AV.int IntKind.i64 (p i).lo, AV.int IntKind.i64 (p i).hi]])]
def L20a.inv (n : Nat) (g : Nat → PD) (j1 : Int) (j2 : Int) (k : Nat) (p : Nat → PD) (a4 : Int) : Prop := 0 ≤ a4 ∧ (a4 ≤ (↑k : Int) ∨ a4 ≤ 0)
noncomputable def L20a.mu (n : Nat) (g : Nat → PD) (j1 : Int) (j2 : Int) (k : Nat) (p : Nat → PD) (a4 : Int) : Nat := ((↑k : Int) - a4).toNat
noncomputable def L20a.E : L20a.O → Exit
  | .e0 a0 a1 a2 => Exit.ret
  | .e1 => Exit.exit 0
noncomputable def L20a.X (n : Nat) (g : Nat → PD) (j1 : Int) (j2 : Int) (k : Nat) (p : Nat → PD) : L20a.O → List AV
  | .e0 a0 a1 a2 => mkT 87 [(2, (AV.int IntKind.i64 a0)), (3, (AV.ms 1 a1 1 0 (List.length a2)))]
  | .e1 => mkT 87 []
noncomputable def L20a.XH (n : Nat) (g : Nat → PD) (j1 : Int) (j2 : Int) (k : Nat) (p : Nat → PD) : L20a.O → AHeap
  | .e0 a0 a1 a2 => ((AObj.var (AV.agg [AV.sl 2 n fun (i : Nat) => AV.agg [AV.int IntKind.i64 (g i).lo, AV.int IntKind.i64 (g i).hi], AV.int IntKind.i64 j1, AV.int IntKind.i64 j2, AV.sl 2 k fun (i : Nat) => AV.agg [AV.int IntKind.i64 (p i).lo, AV.int IntKind.i64 (p i).hi]])) :: ((AObj.row 1 a1 (Col.ints IntKind.i64 a2)) :: ([])))
  | .e1 => ([AObj.var (AV.agg [AV.sl 2 n fun (i : Nat) => AV.agg [AV.int IntKind.i64 (g i).lo, AV.int IntKind.i64 (g i).hi], AV.int IntKind.i64 j1, AV.int IntKind.i64 j2, AV.sl 2 k fun (i : Nat) => AV.agg [AV.int IntKind.i64 (p i).lo, AV.int IntKind.i64 (p i).hi]])])
noncomputable def L20a.N (n : Nat) (g : Nat → PD) (j1 : Int) (j2 : Int) (k : Nat) (p : Nat → PD) : Nat → Int → L20a.O
  | 0, _ => .e0 default default default
  | k_ + 1, a4 => (bif decide (a4 < (↑k : Int)) then (bif decide (IntKind.i64.wrap (r44.v1 g (r43.v0 p a4) (r43.v1 p a4) + IntKind.i64.wrap (r43.v2 n p a4 * j1)) > r43.v3 p a4) then (match L20ab.run g p a4 0 [] (r43.v0 p a4) with | .e0 h3d0 h3d1 => (.e0 (a4) (h3d0) (h3d1)) ) else (bif decide (IntKind.i64.wrap (r44.v0 g (r43.v0 p a4) (r43.v1 p a4) + IntKind.i64.wrap (r43.v2 n p a4 * j2)) ≥ r43.v3 p a4) then (L20a.N n g j1 j2 k p k_ (IntKind.i64.wrap (a4 + 1))) else (match L20abx.run g p a4 0 [] (r43.v0 p a4) with | .e0 h4d0 h4d1 => (.e0 (a4) (h4d0) (h4d1)) ))) else (.e1))
noncomputable def L20a.run (n : Nat) (g : Nat → PD) (j1 : Int) (j2 : Int) (k : Nat) (p : Nat → PD) (a4 : Int) : L20a.O := L20a.N n g j1 j2 k p ((((↑k : Int) - a4).toNat) + 1) a4
def L20a.Next (n : Nat) (g : Nat → PD) (j1 : Int) (j2 : Int) (k : Nat) (p : Nat → PD) (k_ : Nat) (z_ : Int) (T_ : List AV) (h_ : AHeap) : Prop := LNextP (fun (z_ : Int) => L20a.T n g j1 j2 k p z_) (fun (z_ : Int) => L20a.H n g j1 j2 k p z_) (fun (z_ : Int) => L20a.inv n g j1 j2 k p z_) (fun (z_ : Int) => L20a.mu n g j1 j2 k p z_) (fun (k_ : Nat) (z_ : Int) => L20a.N n g j1 j2 k p k_ z_) k_ z_ T_ h_
def L20a.End (n : Nat) (g : Nat → PD) (j1 : Int) (j2 : Int) (k : Nat) (p : Nat → PD) (k_ : Nat) (z_ : Int) (e_ : Exit) (T_ : List AV) (h_ : AHeap) : Prop := LEndP (fun (z_ : Int) => L20a.H n g j1 j2 k p z_) (fun (k_ : Nat) (z_ : Int) => L20a.N n g j1 j2 k p k_ z_) L20a.E (L20a.X n g j1 j2 k p) (L20a.XH n g j1 j2 k p) k_ z_ e_ T_ h_
theorem L20a.nx (n : Nat) (g : Nat → PD) (j1 : Int) (j2 : Int) (k : Nat) (p : Nat → PD) {k_ : Nat} {z_ : Int} {h_ : AHeap} (s_ : Int) (h1 : L20a.inv n g j1 j2 k p s_) (h2 : L20a.mu n g j1 j2 k p s_ < L20a.mu n g j1 j2 k p z_) (h3 : L20a.N n g j1 j2 k p k_ s_ = L20a.N n g j1 j2 k p (k_ + 1) z_) (h4 : PopOk (L20a.H n g j1 j2 k p z_) h_ (L20a.T n g j1 j2 k p s_) (L20a.H n g j1 j2 k p s_)) : LNextP (fun (z_ : Int) => L20a.T n g j1 j2 k p z_) (fun (z_ : Int) => L20a.H n g j1 j2 k p z_) (fun (z_ : Int) => L20a.inv n g j1 j2 k p z_) (fun (z_ : Int) => L20a.mu n g j1 j2 k p z_) (fun (k_ : Nat) (z_ : Int) => L20a.N n g j1 j2 k p k_ z_) k_ z_ (L20a.T n g j1 j2 k p s_) h_ := LNextP.mk (Tm := (fun (z_ : Int) => L20a.T n g j1 j2 k p z_)) (Hp := (fun (z_ : Int) => L20a.H n g j1 j2 k p z_)) (inv := (fun (z_ : Int) => L20a.inv n g j1 j2 k p z_)) (mu := (fun (z_ : Int) => L20a.mu n g j1 j2 k p z_)) (l := (fun (k_ : Nat) (z_ : Int) => L20a.N n g j1 j2 k p k_ z_)) s_ h1 h2 h3 h4
theorem L20a.en (n : Nat) (g : Nat → PD) (j1 : Int) (j2 : Int) (k : Nat) (p : Nat → PD) {k_ : Nat} {z_ : Int} {h_ : AHeap} (o_ : L20a.O) (h3 : L20a.N n g j1 j2 k p (k_ + 1) z_ = o_) (h4 : PopOk (L20a.H n g j1 j2 k p z_) h_ (L20a.X n g j1 j2 k p o_) (L20a.XH n g j1 j2 k p o_)) : LEndP (fun (z_ : Int) => L20a.H n g j1 j2 k p z_) (fun (k_ : Nat) (z_ : Int) => L20a.N n g j1 j2 k p k_ z_) L20a.E (L20a.X n g j1 j2 k p) (L20a.XH n g j1 j2 k p) k_ z_ (L20a.E o_) (L20a.X n g j1 j2 k p o_) h_ := LEndP.mk (Hp := (fun (z_ : Int) => L20a.H n g j1 j2 k p z_)) (l := (fun (k_ : Nat) (z_ : Int) => L20a.N n g j1 j2 k p k_ z_)) (oE := L20a.E) (oT := L20a.X n g j1 j2 k p) (oH := L20a.XH n g j1 j2 k p) o_ h3 h4
noncomputable abbrev L20a.h0 (n : Nat) (g : Nat → PD) (j1 : Int) (j2 : Int) (k : Nat) (p : Nat → PD) (a4 : Int) : AHeap := ([AObj.var (AV.agg [AV.sl 2 n fun (i : Nat) => AV.agg [AV.int IntKind.i64 (g i).lo, AV.int IntKind.i64 (g i).hi], AV.int IntKind.i64 j1, AV.int IntKind.i64 j2, AV.sl 2 k fun (i : Nat) => AV.agg [AV.int IntKind.i64 (p i).lo, AV.int IntKind.i64 (p i).hi]])])
theorem L20a.spec (n : Nat) (g : Nat → PD) (hn : n ≤ 9223372036854775807) (j1 : Int) (j2 : Int) (k : Nat) (p : Nat → PD) (hk : k ≤ 30) (hr : ROk n g j1 j2 k p) (k_ : Nat) (z_ : Int) (hi_ : L20a.inv n g j1 j2 k p z_) (hm_ : L20a.mu n g j1 j2 k p z_ < k_) : LoopTo Try.prog (loopN Try.f20 0) (L20a.T n g j1 j2 k p z_) (L20a.H n g j1 j2 k p z_) (L20a.E (L20a.N n g j1 j2 k p k_ z_)) (L20a.X n g j1 j2 k p (L20a.N n g j1 j2 k p k_ z_)) (L20a.XH n g j1 j2 k p (L20a.N n g j1 j2 k p k_ z_)) := by
  refine LoopTo.fuelP mix (fun (z_ : Int) => L20a.T n g j1 j2 k p z_) (fun (z_ : Int) => L20a.H n g j1 j2 k p z_) (fun (z_ : Int) => L20a.inv n g j1 j2 k p z_) (fun (z_ : Int) => L20a.mu n g j1 j2 k p z_) (fun (k_ : Nat) (z_ : Int) => L20a.N n g j1 j2 k p k_ z_) L20a.E (L20a.X n g j1 j2 k p) (L20a.XH n g j1 j2 k p) (others 87 [1, 4]) (others 87 [2, 3]) (others 87 []) ?_ k_ z_ hi_ hm_
  clear hm_ hi_ z_ k_
  intro k_ z_ hinv hmu
  revert hinv hmu; revert z_; intro a4 hinv hmu
  have hinv : 0 ≤ a4 ∧ (a4 ≤ (↑k : Int) ∨ a4 ≤ 0) := hinv
  have hmu : (((↑k : Int) - a4).toNat) < k_ + 1 := hmu
  cases h1 : decide (a4 < (↑k : Int)) with
  | true =>
    have h1p := of_decide_eq_true h1
    try have := bd43 (by first | assumption | omega) (by first | assumption | omega) (by first | assumption | omega) (by first | assumption | omega)
    have o0 : n ≤ (9223372036854775807 : Nat) := by first | assumption | omega | (simp_all; done)
    have o1 : k ≤ (30 : Nat) := by first | assumption | omega | (simp_all; done)
    have o2 : (0 : Int) ≤ a4 := by first | assumption | omega | (simp_all; done)
    have o3 : a4 < (↑k : Int) := by first | assumption | omega | (simp_all; done)
    have o4 : (0 : Int) ≤ r43.v0 p a4 := by first | assumption | omega | (apply hint43a <;> first | assumption | omega) | (simp_all; done)
    have o5 : r43.v0 p a4 ≤ r43.v1 p a4 := by first | assumption | omega | (apply hint43b <;> first | assumption | omega) | (simp_all; done)
    have o6 : r43.v1 p a4 ≤ (↑n : Int) := by first | assumption | omega | (apply hint43c <;> first | assumption | omega) | (simp_all; done)
    have o7 : r43.v1 p a4 ≤ (9223372036854775807 : Int) := by first | assumption | omega | (apply hint43d <;> first | assumption | omega) | (simp_all; done)
    cases h2 : decide (IntKind.i64.wrap (r44.v1 g (r43.v0 p a4) (r43.v1 p a4) + IntKind.i64.wrap (r43.v2 n p a4 * j1)) > r43.v3 p a4) with
    | true =>
      have h2p := of_decide_eq_true h2
      try have := bd43 (by first | assumption | omega) (by first | assumption | omega) (by first | assumption | omega) (by first | assumption | omega)
      have o8 : ROk n g j1 j2 k p := by first | assumption | (simp_all; done)
      have o9 : a4 ≤ (↑k : Int) ∨ a4 ≤ (0 : Int) := by first | assumption | omega | (simp_all; done)
      have o10 : decide (a4 < (↑k : Int)) = true := by first | assumption | omega | (simp_all; done)
      try have := IntWalk.i64_in (r43.v2 n p a4 * j1) (by omega)
      try have := IntWalk.i64_in (r44.v1 g (r43.v0 p a4) (r43.v1 p a4) + IntKind.i64.wrap (r43.v2 n p a4 * j1)) (by omega)
      have o11 : decide (IntKind.i64.wrap (r44.v1 g (r43.v0 p a4) (r43.v1 p a4) + IntKind.i64.wrap (r43.v2 n p a4 * j1)) > r43.v3 p a4) = true := by first | assumption | omega | (simp_all; done)
      have o12 : IntKind.i64.wrap (r44.v1 g (r43.v0 p a4) (r43.v1 p a4) + IntKind.i64.wrap (r43.v2 n p a4 * j1)) > r43.v3 p a4 := by first | assumption | omega | (simp_all; done)
      have o13 : r43.v0 p a4 ≤ r43.v0 p a4 := by first | assumption | omega | (simp_all; done)
      have o14 : r43.v0 p a4 ≤ r43.v1 p a4 ∨ r43.v0 p a4 ≤ r43.v0 p a4 := by first | assumption | omega | (simp_all; done)
      have o15 : (0 : Int) ≤ r43.v0 p a4 - r43.v0 p a4 := by first | assumption | omega | (simp_all; done)
      cases h3 : L20ab.run g p a4 0 [] (r43.v0 p a4) with
      | e0 h3d0 h3d1 =>
        exact ⟨[.b true, .ret (AV.tup [AV.int IntKind.i64 (r43.v0 p a4), AV.int IntKind.i64 (r43.v1 p a4), AV.int IntKind.i64 (r43.v2 n p a4), AV.int IntKind.i64 (r43.v3 p a4)]) (L20a.h0 n g j1 j2 k p a4), .ret (AV.tup [AV.int IntKind.i64 (r44.v0 g (r43.v0 p a4) (r43.v1 p a4)), AV.int IntKind.i64 (r44.v1 g (r43.v0 p a4) (r43.v1 p a4))]) (L20a.h0 n g j1 j2 k p a4), .b false, .b false, .b false, .b false, .b false, .b false, .b false, .b false, .b false, .b false, .b false, .virt [] [(none, 12, 1, Col.ints IntKind.i64 [])], .loop (others 87 [1, 4, 6, 11, 12, 13]) (Exit.exit 2) (L20ab.X n g j1 j2 k p a4 (L20ab.O.e0 h3d0 h3d1)) (L20ab.XH n g j1 j2 k p a4 (L20ab.O.e0 h3d0 h3d1))], kmp (by kernel_rfl) (And.intro h1 (And.intro (r43 (n) (g) o0 (j1) (j2) (k) (p) o1 (a4) o2 o3 (L20a.h0 n g j1 j2 k p a4)) (And.intro (r44 (n) (g) o0 (j1) (j2) (k) (p) o1 (r43.v0 p a4) (r43.v1 p a4) o4 o5 o6 o7 (L20a.h0 n g j1 j2 k p a4)) (And.intro (show (bnot (decide (IntKind.i64.wrap (r44.v1 g (r43.v0 p a4) (r43.v1 p a4) + IntKind.i64.wrap (r43.v2 n p a4 * j1)) > r43.v3 p a4))) = false by rw [h2]; try rfl) (And.intro (show (bnot (decide (IntKind.i64.wrap (r44.v1 g (r43.v0 p a4) (r43.v1 p a4) + IntKind.i64.wrap (r43.v2 n p a4 * j1)) > r43.v3 p a4))) = false by rw [h2]; try rfl) (And.intro (show (bnot (decide (IntKind.i64.wrap (r44.v1 g (r43.v0 p a4) (r43.v1 p a4) + IntKind.i64.wrap (r43.v2 n p a4 * j1)) > r43.v3 p a4))) = false by rw [h2]; try rfl) (And.intro (show (bnot (decide (IntKind.i64.wrap (r44.v1 g (r43.v0 p a4) (r43.v1 p a4) + IntKind.i64.wrap (r43.v2 n p a4 * j1)) > r43.v3 p a4))) = false by rw [h2]; try rfl) (And.intro (show (bnot (decide (IntKind.i64.wrap (r44.v1 g (r43.v0 p a4) (r43.v1 p a4) + IntKind.i64.wrap (r43.v2 n p a4 * j1)) > r43.v3 p a4))) = false by rw [h2]; try rfl) (And.intro (show (bnot (decide (IntKind.i64.wrap (r44.v1 g (r43.v0 p a4) (r43.v1 p a4) + IntKind.i64.wrap (r43.v2 n p a4 * j1)) > r43.v3 p a4))) = false by rw [h2]; try rfl) (And.intro (show (bnot (decide (IntKind.i64.wrap (r44.v1 g (r43.v0 p a4) (r43.v1 p a4) + IntKind.i64.wrap (r43.v2 n p a4 * j1)) > r43.v3 p a4))) = false by rw [h2]; try rfl) (And.intro (show (bnot (decide (IntKind.i64.wrap (r44.v1 g (r43.v0 p a4) (r43.v1 p a4) + IntKind.i64.wrap (r43.v2 n p a4 * j1)) > r43.v3 p a4))) = false by rw [h2]; try rfl) (And.intro (show (bnot (decide (IntKind.i64.wrap (r44.v1 g (r43.v0 p a4) (r43.v1 p a4) + IntKind.i64.wrap (r43.v2 n p a4 * j1)) > r43.v3 p a4))) = false by rw [h2]; try rfl) (And.intro (show (bnot (decide (IntKind.i64.wrap (r44.v1 g (r43.v0 p a4) (r43.v1 p a4) + IntKind.i64.wrap (r43.v2 n p a4 * j1)) > r43.v3 p a4))) = false by rw [h2]; try rfl) (And.intro (rfl : false = false) (And.intro (And.intro (rfl : AV.snil = AV.snil) (And.intro (rfl : (0 : Nat) = 0) trivial)) (And.intro (L20ab.e0 (n) (g) o0 (j1) (j2) (k) (p) o1 o8 (a4) o2 o9 o10 o3 o11 o12 (0) ([]) (r43.v0 p a4) (And.intro o13 (And.intro o14 o15)) h3d0 h3d1 h3) (L20a.en n g j1 j2 k p (k_ := k_) (z_ := a4) (.e0 (a4) (h3d0) (h3d1) : L20a.O) (by first | (simp only [L20a.N, h1, h2, h3, cond_true, cond_false]; done) | (try unfold L20a.N; try simp only [h1, cond_true, cond_false]; try simp only [h2, cond_true, cond_false]; try simp only [h3, cond_true, cond_false]; try rfl; done)) PopOk.same)))))))))))))))))⟩
    | false =>
      have h2p := of_decide_eq_false h2
      cases h3 : decide (IntKind.i64.wrap (r44.v0 g (r43.v0 p a4) (r43.v1 p a4) + IntKind.i64.wrap (r43.v2 n p a4 * j2)) ≥ r43.v3 p a4) with
      | true =>
        have h3p := of_decide_eq_true h3
        try have := bd43 (by first | assumption | omega) (by first | assumption | omega) (by first | assumption | omega) (by first | assumption | omega)
        try have := IntWalk.i64_in (a4 + 1) (by omega)
        have o16 : (0 : Int) ≤ IntKind.i64.wrap (a4 + (1 : Int)) := by first | assumption | omega | (simp_all; done)
        have o17 : IntKind.i64.wrap (a4 + (1 : Int)) ≤ (↑k : Int) ∨ IntKind.i64.wrap (a4 + (1 : Int)) ≤ (0 : Int) := by first | assumption | omega | (simp_all; done)
        have o18 : ((↑k : Int) - IntKind.i64.wrap (a4 + (1 : Int))).toNat < ((↑k : Int) - a4).toNat := by first | assumption | omega | (simp_all; done)
        exact ⟨[.b true, .ret (AV.tup [AV.int IntKind.i64 (r43.v0 p a4), AV.int IntKind.i64 (r43.v1 p a4), AV.int IntKind.i64 (r43.v2 n p a4), AV.int IntKind.i64 (r43.v3 p a4)]) (L20a.h0 n g j1 j2 k p a4), .ret (AV.tup [AV.int IntKind.i64 (r44.v0 g (r43.v0 p a4) (r43.v1 p a4)), AV.int IntKind.i64 (r44.v1 g (r43.v0 p a4) (r43.v1 p a4))]) (L20a.h0 n g j1 j2 k p a4), .b true, .b true, .b true, .b true, .b true, .b true, .b true, .b true, .b true, .b true, .b true], kmp (by kernel_rfl) (And.intro h1 (And.intro (r43 (n) (g) o0 (j1) (j2) (k) (p) o1 (a4) o2 o3 (L20a.h0 n g j1 j2 k p a4)) (And.intro (r44 (n) (g) o0 (j1) (j2) (k) (p) o1 (r43.v0 p a4) (r43.v1 p a4) o4 o5 o6 o7 (L20a.h0 n g j1 j2 k p a4)) (And.intro (show (bnot (decide (IntKind.i64.wrap (r44.v1 g (r43.v0 p a4) (r43.v1 p a4) + IntKind.i64.wrap (r43.v2 n p a4 * j1)) > r43.v3 p a4))) = true by rw [h2]; try rfl) (And.intro (show (bnot (decide (IntKind.i64.wrap (r44.v1 g (r43.v0 p a4) (r43.v1 p a4) + IntKind.i64.wrap (r43.v2 n p a4 * j1)) > r43.v3 p a4))) = true by rw [h2]; try rfl) (And.intro (show (bnot (decide (IntKind.i64.wrap (r44.v1 g (r43.v0 p a4) (r43.v1 p a4) + IntKind.i64.wrap (r43.v2 n p a4 * j1)) > r43.v3 p a4))) = true by rw [h2]; try rfl) (And.intro (show (bnot (decide (IntKind.i64.wrap (r44.v1 g (r43.v0 p a4) (r43.v1 p a4) + IntKind.i64.wrap (r43.v2 n p a4 * j1)) > r43.v3 p a4))) = true by rw [h2]; try rfl) (And.intro (show (bnot (decide (IntKind.i64.wrap (r44.v1 g (r43.v0 p a4) (r43.v1 p a4) + IntKind.i64.wrap (r43.v2 n p a4 * j1)) > r43.v3 p a4))) = true by rw [h2]; try rfl) (And.intro (show (bnot (decide (IntKind.i64.wrap (r44.v1 g (r43.v0 p a4) (r43.v1 p a4) + IntKind.i64.wrap (r43.v2 n p a4 * j1)) > r43.v3 p a4))) = true by rw [h2]; try rfl) (And.intro (show (bnot (decide (IntKind.i64.wrap (r44.v1 g (r43.v0 p a4) (r43.v1 p a4) + IntKind.i64.wrap (r43.v2 n p a4 * j1)) > r43.v3 p a4))) = true by rw [h2]; try rfl) (And.intro (show (bnot (decide (IntKind.i64.wrap (r44.v1 g (r43.v0 p a4) (r43.v1 p a4) + IntKind.i64.wrap (r43.v2 n p a4 * j1)) > r43.v3 p a4))) = true by rw [h2]; try rfl) (And.intro (show (bnot (decide (IntKind.i64.wrap (r44.v1 g (r43.v0 p a4) (r43.v1 p a4) + IntKind.i64.wrap (r43.v2 n p a4 * j1)) > r43.v3 p a4))) = true by rw [h2]; try rfl) (And.intro (show (bnot (decide (IntKind.i64.wrap (r44.v1 g (r43.v0 p a4) (r43.v1 p a4) + IntKind.i64.wrap (r43.v2 n p a4 * j1)) > r43.v3 p a4))) = true by rw [h2]; try rfl) (And.intro h3 (L20a.nx n g j1 j2 k p (k_ := k_) (z_ := a4) (IntKind.i64.wrap (a4 + 1)) (And.intro o16 o17) o18 (by first | (simp only [L20a.N, h1, h2, h3, cond_true, cond_false]; done) | (try unfold L20a.N; try simp only [h1, cond_true, cond_false]; try simp only [h2, cond_true, cond_false]; try simp only [h3, cond_true, cond_false]; try rfl; done)) PopOk.same)))))))))))))))⟩
      | false =>
        have h3p := of_decide_eq_false h3
        try have := bd43 (by first | assumption | omega) (by first | assumption | omega) (by first | assumption | omega) (by first | assumption | omega)
        have o8 : ROk n g j1 j2 k p := by first | assumption | (simp_all; done)
        have o9 : a4 ≤ (↑k : Int) ∨ a4 ≤ (0 : Int) := by first | assumption | omega | (simp_all; done)
        have o10 : decide (a4 < (↑k : Int)) = true := by first | assumption | omega | (simp_all; done)
        try have := IntWalk.i64_in (r43.v2 n p a4 * j1) (by omega)
        try have := IntWalk.i64_in (r44.v1 g (r43.v0 p a4) (r43.v1 p a4) + IntKind.i64.wrap (r43.v2 n p a4 * j1)) (by omega)
        have o19 : decide (IntKind.i64.wrap (r44.v1 g (r43.v0 p a4) (r43.v1 p a4) + IntKind.i64.wrap (r43.v2 n p a4 * j1)) > r43.v3 p a4) = false := by first | assumption | omega | (simp_all; done)
        have o20 : ¬IntKind.i64.wrap (r44.v1 g (r43.v0 p a4) (r43.v1 p a4) + IntKind.i64.wrap (r43.v2 n p a4 * j1)) > r43.v3 p a4 := by first | assumption | (simp_all; done)
        try have := IntWalk.i64_in (r43.v2 n p a4 * j2) (by omega)
        try have := IntWalk.i64_in (r44.v0 g (r43.v0 p a4) (r43.v1 p a4) + IntKind.i64.wrap (r43.v2 n p a4 * j2)) (by omega)
        have o21 : decide (IntKind.i64.wrap (r44.v0 g (r43.v0 p a4) (r43.v1 p a4) + IntKind.i64.wrap (r43.v2 n p a4 * j2)) ≥ r43.v3 p a4) = false := by first | assumption | omega | (simp_all; done)
        have o22 : ¬IntKind.i64.wrap (r44.v0 g (r43.v0 p a4) (r43.v1 p a4) + IntKind.i64.wrap (r43.v2 n p a4 * j2)) ≥ r43.v3 p a4 := by first | assumption | (simp_all; done)
        have o13 : r43.v0 p a4 ≤ r43.v0 p a4 := by first | assumption | omega | (simp_all; done)
        have o14 : r43.v0 p a4 ≤ r43.v1 p a4 ∨ r43.v0 p a4 ≤ r43.v0 p a4 := by first | assumption | omega | (simp_all; done)
        have o15 : (0 : Int) ≤ r43.v0 p a4 - r43.v0 p a4 := by first | assumption | omega | (simp_all; done)
        cases h4 : L20abx.run g p a4 0 [] (r43.v0 p a4) with
        | e0 h4d0 h4d1 =>
          exact ⟨[.b true, .ret (AV.tup [AV.int IntKind.i64 (r43.v0 p a4), AV.int IntKind.i64 (r43.v1 p a4), AV.int IntKind.i64 (r43.v2 n p a4), AV.int IntKind.i64 (r43.v3 p a4)]) (L20a.h0 n g j1 j2 k p a4), .ret (AV.tup [AV.int IntKind.i64 (r44.v0 g (r43.v0 p a4) (r43.v1 p a4)), AV.int IntKind.i64 (r44.v1 g (r43.v0 p a4) (r43.v1 p a4))]) (L20a.h0 n g j1 j2 k p a4), .b true, .b true, .b true, .b true, .b true, .b true, .b true, .b true, .b true, .b true, .b false, .virt [] [(none, 12, 1, Col.ints IntKind.i64 [])], .loop (others 87 [1, 4, 6, 11, 12, 13]) (Exit.exit 2) (L20abx.X n g j1 j2 k p a4 (L20abx.O.e0 h4d0 h4d1)) (L20abx.XH n g j1 j2 k p a4 (L20abx.O.e0 h4d0 h4d1))], kmp (by kernel_rfl) (And.intro h1 (And.intro (r43 (n) (g) o0 (j1) (j2) (k) (p) o1 (a4) o2 o3 (L20a.h0 n g j1 j2 k p a4)) (And.intro (r44 (n) (g) o0 (j1) (j2) (k) (p) o1 (r43.v0 p a4) (r43.v1 p a4) o4 o5 o6 o7 (L20a.h0 n g j1 j2 k p a4)) (And.intro (show (bnot (decide (IntKind.i64.wrap (r44.v1 g (r43.v0 p a4) (r43.v1 p a4) + IntKind.i64.wrap (r43.v2 n p a4 * j1)) > r43.v3 p a4))) = true by rw [h2]; try rfl) (And.intro (show (bnot (decide (IntKind.i64.wrap (r44.v1 g (r43.v0 p a4) (r43.v1 p a4) + IntKind.i64.wrap (r43.v2 n p a4 * j1)) > r43.v3 p a4))) = true by rw [h2]; try rfl) (And.intro (show (bnot (decide (IntKind.i64.wrap (r44.v1 g (r43.v0 p a4) (r43.v1 p a4) + IntKind.i64.wrap (r43.v2 n p a4 * j1)) > r43.v3 p a4))) = true by rw [h2]; try rfl) (And.intro (show (bnot (decide (IntKind.i64.wrap (r44.v1 g (r43.v0 p a4) (r43.v1 p a4) + IntKind.i64.wrap (r43.v2 n p a4 * j1)) > r43.v3 p a4))) = true by rw [h2]; try rfl) (And.intro (show (bnot (decide (IntKind.i64.wrap (r44.v1 g (r43.v0 p a4) (r43.v1 p a4) + IntKind.i64.wrap (r43.v2 n p a4 * j1)) > r43.v3 p a4))) = true by rw [h2]; try rfl) (And.intro (show (bnot (decide (IntKind.i64.wrap (r44.v1 g (r43.v0 p a4) (r43.v1 p a4) + IntKind.i64.wrap (r43.v2 n p a4 * j1)) > r43.v3 p a4))) = true by rw [h2]; try rfl) (And.intro (show (bnot (decide (IntKind.i64.wrap (r44.v1 g (r43.v0 p a4) (r43.v1 p a4) + IntKind.i64.wrap (r43.v2 n p a4 * j1)) > r43.v3 p a4))) = true by rw [h2]; try rfl) (And.intro (show (bnot (decide (IntKind.i64.wrap (r44.v1 g (r43.v0 p a4) (r43.v1 p a4) + IntKind.i64.wrap (r43.v2 n p a4 * j1)) > r43.v3 p a4))) = true by rw [h2]; try rfl) (And.intro (show (bnot (decide (IntKind.i64.wrap (r44.v1 g (r43.v0 p a4) (r43.v1 p a4) + IntKind.i64.wrap (r43.v2 n p a4 * j1)) > r43.v3 p a4))) = true by rw [h2]; try rfl) (And.intro (show (bnot (decide (IntKind.i64.wrap (r44.v1 g (r43.v0 p a4) (r43.v1 p a4) + IntKind.i64.wrap (r43.v2 n p a4 * j1)) > r43.v3 p a4))) = true by rw [h2]; try rfl) (And.intro h3 (And.intro (And.intro (rfl : AV.snil = AV.snil) (And.intro (rfl : (0 : Nat) = 0) trivial)) (And.intro (L20abx.e0 (n) (g) o0 (j1) (j2) (k) (p) o1 o8 (a4) o2 o9 o10 o3 o19 o20 o21 o22 (0) ([]) (r43.v0 p a4) (And.intro o13 (And.intro o14 o15)) h4d0 h4d1 h4) (L20a.en n g j1 j2 k p (k_ := k_) (z_ := a4) (.e0 (a4) (h4d0) (h4d1) : L20a.O) (by first | (simp only [L20a.N, h1, h2, h3, h4, cond_true, cond_false]; done) | (try unfold L20a.N; try simp only [h1, cond_true, cond_false]; try simp only [h2, cond_true, cond_false]; try simp only [h3, cond_true, cond_false]; try simp only [h4, cond_true, cond_false]; try rfl; done)) PopOk.same)))))))))))))))))⟩
  | false =>
    have h1p := of_decide_eq_false h1
    exact ⟨[.b false], kmp (by kernel_rfl) (And.intro h1 (L20a.en n g j1 j2 k p (k_ := k_) (z_ := a4) (.e1 : L20a.O) (by first | (simp only [L20a.N, h1, cond_true, cond_false]; done) | (try unfold L20a.N; try simp only [h1, cond_true, cond_false]; try rfl; done)) PopOk.same))⟩
theorem L20a.e0 (n : Nat) (g : Nat → PD) (hn : n ≤ 9223372036854775807) (j1 : Int) (j2 : Int) (k : Nat) (p : Nat → PD) (hk : k ≤ 30) (hr : ROk n g j1 j2 k p) (a4 : Int) (hinv : L20a.inv n g j1 j2 k p a4) (a0 : Int) (a1 : Nat) (a2 : List Int) (hN : L20a.run n g j1 j2 k p a4 = (.e0 a0 a1 a2 : L20a.O)) : LoopTo Try.prog (loopN Try.f20 0) (L20a.T n g j1 j2 k p a4) (L20a.H n g j1 j2 k p a4) (Exit.ret) (L20a.X n g j1 j2 k p (.e0 a0 a1 a2 : L20a.O)) (L20a.XH n g j1 j2 k p (.e0 a0 a1 a2 : L20a.O)) := by
  have h_ := L20a.spec n g hn j1 j2 k p hk hr ((((↑k : Int) - a4).toNat) + 1) a4 hinv (Nat.lt_succ_self _)
  unfold L20a.run at hN
  simp only [hN] at h_
  exact h_
theorem L20a.e1 (n : Nat) (g : Nat → PD) (hn : n ≤ 9223372036854775807) (j1 : Int) (j2 : Int) (k : Nat) (p : Nat → PD) (hk : k ≤ 30) (hr : ROk n g j1 j2 k p) (a4 : Int) (hinv : L20a.inv n g j1 j2 k p a4) (hN : L20a.run n g j1 j2 k p a4 = (.e1 : L20a.O)) : LoopTo Try.prog (loopN Try.f20 0) (L20a.T n g j1 j2 k p a4) (L20a.H n g j1 j2 k p a4) (Exit.exit 0) (L20a.X n g j1 j2 k p (.e1 : L20a.O)) (L20a.XH n g j1 j2 k p (.e1 : L20a.O)) := by
  have h_ := L20a.spec n g hn j1 j2 k p hk hr ((((↑k : Int) - a4).toNat) + 1) a4 hinv (Nat.lt_succ_self _)
  unfold L20a.run at hN
  simp only [hN] at h_
  exact h_

noncomputable def r20.v0 (n : Nat) (g : Nat → PD) (j1 : Int) (j2 : Int) (k : Nat) (p : Nat → PD) : Int := (match L20a.run n g j1 j2 k p 0 with | .e0 h1d0 h1d1 h1d2 => h1d0 | .e1 => -1 )
noncomputable def r20.v1 (n : Nat) (g : Nat → PD) (j1 : Int) (j2 : Int) (k : Nat) (p : Nat → PD) : List Int := (match L20a.run n g j1 j2 k p 0 with | .e0 h1d0 h1d1 h1d2 => h1d2 | .e1 => ([] : List Int) )
theorem r20 (n : Nat) (g : Nat → PD) (hn : n ≤ 9223372036854775807) (j1 : Int) (j2 : Int) (k : Nat) (p : Nat → PD) (hk : k ≤ 30) (hr : ROk n g j1 j2 k p) (h : AHeap) : Ret Try.prog 20 ([rn n g j1 j2 k p]) h (AV.tup [(AV.int IntKind.i64 (r20.v0 n g j1 j2 k p)), (avInts IntKind.i64 (r20.v1 n g j1 j2 k p))]) h := by
  try have := bd43 (by first | assumption | omega) (by first | assumption | omega) (by first | assumption | omega) (by first | assumption | omega)
  have o0 : n ≤ (9223372036854775807 : Nat) := by first | assumption | omega | (simp_all; done)
  have o1 : k ≤ (30 : Nat) := by first | assumption | omega | (simp_all; done)
  have o2 : ROk n g j1 j2 k p := by first | assumption | (simp_all; done)
  have o3 : (0 : Int) ≤ (↑k : Int) ∨ (0 : Int) ≤ (0 : Int) := by first | assumption | omega | (simp_all; done)
  cases h1 : L20a.run n g j1 j2 k p 0 with
  | e0 h1d0 h1d1 h1d2 =>
    try have := bd43 (by first | assumption | omega) (by first | assumption | omega) (by first | assumption | omega) (by first | assumption | omega)
    have o4 : (0 : Nat) + h1d2.length ≤ (Col.ints IntKind.i64 h1d2).len := by first | assumption | omega | (simp only [List.length_append, List.length_cons, List.length_nil, List.length_map]; omega) | rfl | (exact Nat.le_refl _) | (simp [Col.len]; done) | (simp_all; done)
    exact Ret.of_run1 mix [(AV.int IntKind.i64 (r20.v0 n g j1 j2 k p)), (avInts IntKind.i64 (r20.v1 n g j1 j2 k p))] Try.func20 rfl [.loop (others 87 [1, 4]) (Exit.ret) (L20a.X n g j1 j2 k p (L20a.O.e0 h1d0 h1d1 h1d2)) (L20a.XH n g j1 j2 k p (L20a.O.e0 h1d0 h1d1 h1d2))] (by simp) (by simp) (kmp (by kernel_rfl) (And.intro (L20a.e0 (n) (g) o0 (j1) (j2) (k) (p) o1 o2 (0) (And.intro (show (0 : Int) ≤ (0 : Int) by first | decide | exact Int.NonNeg.mk _) o3) h1d0 h1d1 h1d2 h1) (And.intro (show (AV.int IntKind.i64 h1d0) = ((AV.int IntKind.i64 (r20.v0 n g j1 j2 k p))) by first | (simp only [r20.v0, r20.v1, h1, cond_true, cond_false]; done) | (try unfold r20.v0; try unfold r20.v1; try simp only [h1, cond_true, cond_false]; try rfl; done) | rfl) (And.intro (And.intro (rfl : h1d1 = h1d1) (And.intro (show (1 : Nat) = (1 : Nat) by first | decide | exact Int.NonNeg.mk _) (And.intro o4 (show ((avInts IntKind.i64 h1d2)) = ((avInts IntKind.i64 (r20.v1 n g j1 j2 k p))) by first | (simp only [r20.v0, r20.v1, h1, cond_true, cond_false]; done) | (try unfold r20.v0; try unfold r20.v1; try simp only [h1, cond_true, cond_false]; try rfl; done) | rfl)))) trivial)))) h
  | e1 =>
    exact Ret.val (show (AV.tup [AV.int IntKind.i64 (-1), (avInts IntKind.i64 ([] : List Int))]) = (AV.tup [(AV.int IntKind.i64 (r20.v0 n g j1 j2 k p)), (avInts IntKind.i64 (r20.v1 n g j1 j2 k p))]) by first | (simp only [r20.v0, r20.v1, h1, cond_true, cond_false]; done) | (try unfold r20.v0; try unfold r20.v1; try simp only [h1, cond_true, cond_false]; try rfl; done) | rfl) (Ret.of_run1 mix [AV.int IntKind.i64 (-1), (avInts IntKind.i64 ([] : List Int))] Try.func20 rfl [.loop (others 87 [1, 4]) (Exit.exit 0) (L20a.X n g j1 j2 k p L20a.O.e1) (L20a.XH n g j1 j2 k p L20a.O.e1)] (by simp) (by simp) (kmp (by kernel_rfl) (And.intro (L20a.e1 (n) (g) o0 (j1) (j2) (k) (p) o1 o2 (0) (And.intro (show (0 : Int) ≤ (0 : Int) by first | decide | exact Int.NonNeg.mk _) o3) h1) (And.intro (rfl : (AV.int IntKind.i64 (-1)) = (AV.int IntKind.i64 (-1))) (And.intro (rfl : ((avInts IntKind.i64 ([] : List Int))) = ((avInts IntKind.i64 ([] : List Int)))) trivial)))) h)

noncomputable def r46.v0 (g : Nat → PD) (i : Int) : Int := (g i.toNat).lo
noncomputable def r46.v1 (g : Nat → PD) (i : Int) : Int := (g i.toNat).hi
theorem r46 (n : Nat) (g : Nat → PD) (hn : n ≤ 9223372036854775807) (j1 : Int) (j2 : Int) (k : Nat) (p : Nat → PD) (i : Int) (h0 : 0 ≤ i) (h1 : i < (↑n : Int)) : Ret Try.prog 46 ([AV.int IntKind.i64 i, AV.ptr 0 1 4 0 0]) ([AObj.var (rn n g j1 j2 k p)]) (AV.agg ((AV.int IntKind.i64 (r46.v0 g i)) :: ((AV.int IntKind.i64 (r46.v1 g i)) :: []))) ([AObj.var (rn n g j1 j2 k p)]) := by
  have o0 : (0 : Int) ≤ i := by first | assumption | omega | (simp_all; done)
  have o1 : i < (↑n : Int) := by first | assumption | omega | (simp_all; done)
  exact Ret.of_runH mix [(AV.agg ((AV.int IntKind.i64 (r46.v0 g i)) :: ((AV.int IntKind.i64 (r46.v1 g i)) :: [])))] ([AObj.var (rn n g j1 j2 k p)]) Try.func46 rfl [] (by simp) (kmp (by kernel_rfl) (And.intro (And.intro o0 o1) (And.intro (And.intro (show (AV.agg [AV.int IntKind.i64 (g i.toNat).lo, AV.int IntKind.i64 (g i.toNat).hi]) = ((AV.agg ((AV.int IntKind.i64 (r46.v0 g i)) :: ((AV.int IntKind.i64 (r46.v1 g i)) :: [])))) by first | (simp only [r46.v0, r46.v1, cond_true, cond_false]; done) | (try unfold r46.v0; try unfold r46.v1; try rfl; done) | rfl) trivial) (rfl : ([AObj.var (rn n g j1 j2 k p)] : AHeap) = [AObj.var (rn n g j1 j2 k p)]))))

noncomputable def r48.v0 (g : Nat → PD) (i : Int) : Int := (g i.toNat).lo
noncomputable def r48.v1 (g : Nat → PD) (i : Int) : Int := (g i.toNat).hi
theorem r48 (n : Nat) (g : Nat → PD) (hn : n ≤ 9223372036854775807) (j1 : Int) (j2 : Int) (k : Nat) (p : Nat → PD) (i : Int) (h0 : 0 ≤ i) (h1 : i < (↑n : Int)) : Ret Try.prog 48 ([AV.int IntKind.i64 i, AV.ptr 0 1 4 0 0]) ([AObj.var (rn n g j1 j2 k p)]) (AV.agg ((AV.int IntKind.i64 (r48.v0 g i)) :: ((AV.int IntKind.i64 (r48.v1 g i)) :: []))) ([AObj.var (rn n g j1 j2 k p)]) := by
  have o0 : (0 : Int) ≤ i := by first | assumption | omega | (simp_all; done)
  have o1 : i < (↑n : Int) := by first | assumption | omega | (simp_all; done)
  exact Ret.of_runH mix [(AV.agg ((AV.int IntKind.i64 (r48.v0 g i)) :: ((AV.int IntKind.i64 (r48.v1 g i)) :: [])))] ([AObj.var (rn n g j1 j2 k p)]) Try.func48 rfl [] (by simp) (kmp (by kernel_rfl) (And.intro (And.intro o0 o1) (And.intro (And.intro (show (AV.agg [AV.int IntKind.i64 (g i.toNat).lo, AV.int IntKind.i64 (g i.toNat).hi]) = ((AV.agg ((AV.int IntKind.i64 (r48.v0 g i)) :: ((AV.int IntKind.i64 (r48.v1 g i)) :: [])))) by first | (simp only [r48.v0, r48.v1, cond_true, cond_false]; done) | (try unfold r48.v0; try unfold r48.v1; try rfl; done) | rfl) trivial) (rfl : ([AObj.var (rn n g j1 j2 k p)] : AHeap) = [AObj.var (rn n g j1 j2 k p)]))))

theorem r49 (n : Nat) (g : Nat → PD) (hn : n ≤ 9223372036854775807) (j1 : Int) (j2 : Int) (k : Nat) (p : Nat → PD) (i : Int) : Ret Try.prog 49 ([AV.int IntKind.i64 i, AV.ptr 0 1 4 0 0]) ([AObj.var (rn n g j1 j2 k p)]) (AV.agg ((AV.int IntKind.i64 j1) :: ((AV.int IntKind.i64 j2) :: []))) ([AObj.var (rn n g j1 j2 k p)]) := by
  exact Ret.of_runH mix [(AV.agg ((AV.int IntKind.i64 j1) :: ((AV.int IntKind.i64 j2) :: [])))] ([AObj.var (rn n g j1 j2 k p)]) Try.func49 rfl [] (by simp) (kmp (by kernel_rfl) (And.intro (And.intro (show (AV.agg [AV.int IntKind.i64 j1, AV.int IntKind.i64 j2]) = ((AV.agg ((AV.int IntKind.i64 j1) :: ((AV.int IntKind.i64 j2) :: [])))) by first | (simp only [cond_true, cond_false]; done) | (try rfl; done) | rfl) trivial) (rfl : ([AObj.var (rn n g j1 j2 k p)] : AHeap) = [AObj.var (rn n g j1 j2 k p)])))

inductive L45aa.O where
  | e0
  | e1
noncomputable def L45aa.T (n : Nat) (g : Nat → PD) (j1 : Int) (j2 : Int) (k : Nat) (p : Nat → PD) (m : Nat) (f : Nat → Int) (a10 : Int) : List AV := mkT 29 [(1, AV.fn 46 [AV.ptr 0 1 4 0 0]), (8, AV.sl 1 m fun (i : Nat) => AV.int IntKind.i64 (f i)), (9, AV.int IntKind.i64 (↑m : Int)), (10, AV.int IntKind.i64 a10)]
noncomputable def L45aa.H (n : Nat) (g : Nat → PD) (j1 : Int) (j2 : Int) (k : Nat) (p : Nat → PD) (m : Nat) (f : Nat → Int) (a10 : Int) : AHeap := [AObj.var (AV.agg [AV.sl 2 n fun (i : Nat) => AV.agg [AV.int IntKind.i64 (g i).lo, AV.int IntKind.i64 (g i).hi], AV.int IntKind.i64 j1, AV.int IntKind.i64 j2, AV.sl 2 k fun (i : Nat) => AV.agg [AV.int IntKind.i64 (p i).lo, AV.int IntKind.i64 (p i).hi]])]
def L45aa.inv (n : Nat) (g : Nat → PD) (j1 : Int) (j2 : Int) (k : Nat) (p : Nat → PD) (m : Nat) (f : Nat → Int) (a10 : Int) : Prop := 0 ≤ a10 ∧ (a10 ≤ (↑m : Int) ∨ a10 ≤ 0)
noncomputable def L45aa.mu (n : Nat) (g : Nat → PD) (j1 : Int) (j2 : Int) (k : Nat) (p : Nat → PD) (m : Nat) (f : Nat → Int) (a10 : Int) : Nat := ((↑m : Int) - a10).toNat
noncomputable def L45aa.E : L45aa.O → Exit
  | .e0 => Exit.ret
  | .e1 => Exit.exit 0
noncomputable def L45aa.X (n : Nat) (g : Nat → PD) (j1 : Int) (j2 : Int) (k : Nat) (p : Nat → PD) (m : Nat) (f : Nat → Int) : L45aa.O → List AV
  | .e0 => mkT 29 [(4, (AV.bool false))]
  | .e1 => mkT 29 []
noncomputable def L45aa.XH (n : Nat) (g : Nat → PD) (j1 : Int) (j2 : Int) (k : Nat) (p : Nat → PD) (m : Nat) (f : Nat → Int) : L45aa.O → AHeap
  | .e0 => ([AObj.var (AV.agg [AV.sl 2 n fun (i : Nat) => AV.agg [AV.int IntKind.i64 (g i).lo, AV.int IntKind.i64 (g i).hi], AV.int IntKind.i64 j1, AV.int IntKind.i64 j2, AV.sl 2 k fun (i : Nat) => AV.agg [AV.int IntKind.i64 (p i).lo, AV.int IntKind.i64 (p i).hi]])])
  | .e1 => ([AObj.var (AV.agg [AV.sl 2 n fun (i : Nat) => AV.agg [AV.int IntKind.i64 (g i).lo, AV.int IntKind.i64 (g i).hi], AV.int IntKind.i64 j1, AV.int IntKind.i64 j2, AV.sl 2 k fun (i : Nat) => AV.agg [AV.int IntKind.i64 (p i).lo, AV.int IntKind.i64 (p i).hi]])])
noncomputable def L45aa.N (g : Nat → PD) (m : Nat) (f : Nat → Int) : Nat → Int → L45aa.O
  | 0, _ => .e0
  | k_ + 1, a10 => (bif decide (a10 < (↑m : Int)) then (bif decide (f a10.toNat < r46.v0 g a10) then (.e0) else (bif decide (f a10.toNat > r46.v1 g a10) then (.e0) else (L45aa.N g m f k_ (IntKind.i64.wrap (a10 + 1))))) else (.e1))
noncomputable def L45aa.run (g : Nat → PD) (m : Nat) (f : Nat → Int) (a10 : Int) : L45aa.O := L45aa.N g m f ((((↑m : Int) - a10).toNat) + 1) a10
def L45aa.Next (n : Nat) (g : Nat → PD) (j1 : Int) (j2 : Int) (k : Nat) (p : Nat → PD) (m : Nat) (f : Nat → Int) (k_ : Nat) (z_ : Int) (T_ : List AV) (h_ : AHeap) : Prop := LNextP (fun (z_ : Int) => L45aa.T n g j1 j2 k p m f z_) (fun (z_ : Int) => L45aa.H n g j1 j2 k p m f z_) (fun (z_ : Int) => L45aa.inv n g j1 j2 k p m f z_) (fun (z_ : Int) => L45aa.mu n g j1 j2 k p m f z_) (fun (k_ : Nat) (z_ : Int) => L45aa.N g m f k_ z_) k_ z_ T_ h_
def L45aa.End (n : Nat) (g : Nat → PD) (j1 : Int) (j2 : Int) (k : Nat) (p : Nat → PD) (m : Nat) (f : Nat → Int) (k_ : Nat) (z_ : Int) (e_ : Exit) (T_ : List AV) (h_ : AHeap) : Prop := LEndP (fun (z_ : Int) => L45aa.H n g j1 j2 k p m f z_) (fun (k_ : Nat) (z_ : Int) => L45aa.N g m f k_ z_) L45aa.E (L45aa.X n g j1 j2 k p m f) (L45aa.XH n g j1 j2 k p m f) k_ z_ e_ T_ h_
theorem L45aa.nx (n : Nat) (g : Nat → PD) (j1 : Int) (j2 : Int) (k : Nat) (p : Nat → PD) (m : Nat) (f : Nat → Int) {k_ : Nat} {z_ : Int} {h_ : AHeap} (s_ : Int) (h1 : L45aa.inv n g j1 j2 k p m f s_) (h2 : L45aa.mu n g j1 j2 k p m f s_ < L45aa.mu n g j1 j2 k p m f z_) (h3 : L45aa.N g m f k_ s_ = L45aa.N g m f (k_ + 1) z_) (h4 : PopOk (L45aa.H n g j1 j2 k p m f z_) h_ (L45aa.T n g j1 j2 k p m f s_) (L45aa.H n g j1 j2 k p m f s_)) : LNextP (fun (z_ : Int) => L45aa.T n g j1 j2 k p m f z_) (fun (z_ : Int) => L45aa.H n g j1 j2 k p m f z_) (fun (z_ : Int) => L45aa.inv n g j1 j2 k p m f z_) (fun (z_ : Int) => L45aa.mu n g j1 j2 k p m f z_) (fun (k_ : Nat) (z_ : Int) => L45aa.N g m f k_ z_) k_ z_ (L45aa.T n g j1 j2 k p m f s_) h_ := LNextP.mk (Tm := (fun (z_ : Int) => L45aa.T n g j1 j2 k p m f z_)) (Hp := (fun (z_ : Int) => L45aa.H n g j1 j2 k p m f z_)) (inv := (fun (z_ : Int) => L45aa.inv n g j1 j2 k p m f z_)) (mu := (fun (z_ : Int) => L45aa.mu n g j1 j2 k p m f z_)) (l := (fun (k_ : Nat) (z_ : Int) => L45aa.N g m f k_ z_)) s_ h1 h2 h3 h4
theorem L45aa.en (n : Nat) (g : Nat → PD) (j1 : Int) (j2 : Int) (k : Nat) (p : Nat → PD) (m : Nat) (f : Nat → Int) {k_ : Nat} {z_ : Int} {h_ : AHeap} (o_ : L45aa.O) (h3 : L45aa.N g m f (k_ + 1) z_ = o_) (h4 : PopOk (L45aa.H n g j1 j2 k p m f z_) h_ (L45aa.X n g j1 j2 k p m f o_) (L45aa.XH n g j1 j2 k p m f o_)) : LEndP (fun (z_ : Int) => L45aa.H n g j1 j2 k p m f z_) (fun (k_ : Nat) (z_ : Int) => L45aa.N g m f k_ z_) L45aa.E (L45aa.X n g j1 j2 k p m f) (L45aa.XH n g j1 j2 k p m f) k_ z_ (L45aa.E o_) (L45aa.X n g j1 j2 k p m f o_) h_ := LEndP.mk (Hp := (fun (z_ : Int) => L45aa.H n g j1 j2 k p m f z_)) (l := (fun (k_ : Nat) (z_ : Int) => L45aa.N g m f k_ z_)) (oE := L45aa.E) (oT := L45aa.X n g j1 j2 k p m f) (oH := L45aa.XH n g j1 j2 k p m f) o_ h3 h4
noncomputable abbrev L45aa.h0 (n : Nat) (g : Nat → PD) (j1 : Int) (j2 : Int) (k : Nat) (p : Nat → PD) (m : Nat) (f : Nat → Int) (a10 : Int) : AHeap := ([AObj.var (AV.agg [AV.sl 2 n fun (i : Nat) => AV.agg [AV.int IntKind.i64 (g i).lo, AV.int IntKind.i64 (g i).hi], AV.int IntKind.i64 j1, AV.int IntKind.i64 j2, AV.sl 2 k fun (i : Nat) => AV.agg [AV.int IntKind.i64 (p i).lo, AV.int IntKind.i64 (p i).hi]])])
theorem L45aa.spec (n : Nat) (g : Nat → PD) (hn : n ≤ 9223372036854775807) (j1 : Int) (j2 : Int) (k : Nat) (p : Nat → PD) (m : Nat) (f : Nat → Int) (hm : m ≤ n) (k_ : Nat) (z_ : Int) (hi_ : L45aa.inv n g j1 j2 k p m f z_) (hm_ : L45aa.mu n g j1 j2 k p m f z_ < k_) : LoopTo Try.prog (loopN Try.f45 0) (L45aa.T n g j1 j2 k p m f z_) (L45aa.H n g j1 j2 k p m f z_) (L45aa.E (L45aa.N g m f k_ z_)) (L45aa.X n g j1 j2 k p m f (L45aa.N g m f k_ z_)) (L45aa.XH n g j1 j2 k p m f (L45aa.N g m f k_ z_)) := by
  refine LoopTo.fuelP mix (fun (z_ : Int) => L45aa.T n g j1 j2 k p m f z_) (fun (z_ : Int) => L45aa.H n g j1 j2 k p m f z_) (fun (z_ : Int) => L45aa.inv n g j1 j2 k p m f z_) (fun (z_ : Int) => L45aa.mu n g j1 j2 k p m f z_) (fun (k_ : Nat) (z_ : Int) => L45aa.N g m f k_ z_) L45aa.E (L45aa.X n g j1 j2 k p m f) (L45aa.XH n g j1 j2 k p m f) (others 29 [1, 8, 9, 10]) (others 29 [4]) (others 29 []) ?_ k_ z_ hi_ hm_
  clear hm_ hi_ z_ k_
  intro k_ z_ hinv hmu
  revert hinv hmu; revert z_; intro a10 hinv hmu
  have hinv : 0 ≤ a10 ∧ (a10 ≤ (↑m : Int) ∨ a10 ≤ 0) := hinv
  have hmu : (((↑m : Int) - a10).toNat) < k_ + 1 := hmu
  cases h1 : decide (a10 < (↑m : Int)) with
  | true =>
    have h1p := of_decide_eq_true h1
    have o0 : (0 : Int) ≤ a10 := by first | assumption | omega | (simp_all; done)
    have o1 : a10 < (↑m : Int) := by first | assumption | omega | (simp_all; done)
    have o2 : n ≤ (9223372036854775807 : Nat) := by first | assumption | omega | (simp_all; done)
    have o3 : a10 < (↑n : Int) := by first | assumption | omega | (simp_all; done)
    cases h2 : decide (f a10.toNat < r46.v0 g a10) with
    | true =>
      have h2p := of_decide_eq_true h2
      exact ⟨[.b true, .ret (AV.agg [AV.int IntKind.i64 (r46.v0 g a10), AV.int IntKind.i64 (r46.v1 g a10)]) (L45aa.h0 n g j1 j2 k p m f a10), .b true, .b true, .b true, .b true, .b true, .b true], kmp (by kernel_rfl) (And.intro h1 (And.intro (And.intro o0 o1) (And.intro (r46 (n) (g) o2 (j1) (j2) (k) (p) (a10) o0 o3) (And.intro h2 (And.intro h2 (And.intro h2 (And.intro h2 (And.intro h2 (And.intro (rfl : true = true) (L45aa.en n g j1 j2 k p m f (k_ := k_) (z_ := a10) (h_ := [AObj.var (AV.agg [AV.sl 2 n fun (i : Nat) => AV.agg [AV.int IntKind.i64 (g i).lo, AV.int IntKind.i64 (g i).hi], AV.int IntKind.i64 j1, AV.int IntKind.i64 j2, AV.sl 2 k fun (i : Nat) => AV.agg [AV.int IntKind.i64 (p i).lo, AV.int IntKind.i64 (p i).hi]]), AObj.var (AV.agg [AV.int IntKind.i64 (r46.v0 g a10), AV.int IntKind.i64 (r46.v1 g a10)])]) (.e0 : L45aa.O) (by first | (simp only [L45aa.N, h1, h2, cond_true, cond_false]; done) | (try unfold L45aa.N; try simp only [h1, cond_true, cond_false]; try simp only [h2, cond_true, cond_false]; try rfl; done)) (PopOk.pop rfl (by simp [L45aa.T, L45aa.X, L45aa.H, L45aa.XH]))))))))))))⟩
    | false =>
      have h2p := of_decide_eq_false h2
      cases h3 : decide (f a10.toNat > r46.v1 g a10) with
      | true =>
        have h3p := of_decide_eq_true h3
        exact ⟨[.b true, .ret (AV.agg [AV.int IntKind.i64 (r46.v0 g a10), AV.int IntKind.i64 (r46.v1 g a10)]) (L45aa.h0 n g j1 j2 k p m f a10), .b false, .b false, .b false, .b false, .b false, .b true], kmp (by kernel_rfl) (And.intro h1 (And.intro (And.intro o0 o1) (And.intro (r46 (n) (g) o2 (j1) (j2) (k) (p) (a10) o0 o3) (And.intro h2 (And.intro h2 (And.intro h2 (And.intro h2 (And.intro h2 (And.intro h3 (L45aa.en n g j1 j2 k p m f (k_ := k_) (z_ := a10) (h_ := [AObj.var (AV.agg [AV.sl 2 n fun (i : Nat) => AV.agg [AV.int IntKind.i64 (g i).lo, AV.int IntKind.i64 (g i).hi], AV.int IntKind.i64 j1, AV.int IntKind.i64 j2, AV.sl 2 k fun (i : Nat) => AV.agg [AV.int IntKind.i64 (p i).lo, AV.int IntKind.i64 (p i).hi]]), AObj.var (AV.agg [AV.int IntKind.i64 (r46.v0 g a10), AV.int IntKind.i64 (r46.v1 g a10)])]) (.e0 : L45aa.O) (by first | (simp only [L45aa.N, h1, h2, h3, cond_true, cond_false]; done) | (try unfold L45aa.N; try simp only [h1, cond_true, cond_false]; try simp only [h2, cond_true, cond_false]; try simp only [h3, cond_true, cond_false]; try rfl; done)) (PopOk.pop rfl (by simp [L45aa.T, L45aa.X, L45aa.H, L45aa.XH]))))))))))))⟩
      | false =>
        have h3p := of_decide_eq_false h3
        try have := IntWalk.i64_in (a10 + 1) (by omega)
        have o4 : (0 : Int) ≤ IntKind.i64.wrap (a10 + (1 : Int)) := by first | assumption | omega | (simp_all; done)
        have o5 : IntKind.i64.wrap (a10 + (1 : Int)) ≤ (↑m : Int) ∨ IntKind.i64.wrap (a10 + (1 : Int)) ≤ (0 : Int) := by first | assumption | omega | (simp_all; done)
        have o6 : ((↑m : Int) - IntKind.i64.wrap (a10 + (1 : Int))).toNat < ((↑m : Int) - a10).toNat := by first | assumption | omega | (simp_all; done)
        exact ⟨[.b true, .ret (AV.agg [AV.int IntKind.i64 (r46.v0 g a10), AV.int IntKind.i64 (r46.v1 g a10)]) (L45aa.h0 n g j1 j2 k p m f a10), .b false, .b false, .b false, .b false, .b false, .b false], kmp (by kernel_rfl) (And.intro h1 (And.intro (And.intro o0 o1) (And.intro (r46 (n) (g) o2 (j1) (j2) (k) (p) (a10) o0 o3) (And.intro h2 (And.intro h2 (And.intro h2 (And.intro h2 (And.intro h2 (And.intro h3 (L45aa.nx n g j1 j2 k p m f (k_ := k_) (z_ := a10) (h_ := [AObj.var (AV.agg [AV.sl 2 n fun (i : Nat) => AV.agg [AV.int IntKind.i64 (g i).lo, AV.int IntKind.i64 (g i).hi], AV.int IntKind.i64 j1, AV.int IntKind.i64 j2, AV.sl 2 k fun (i : Nat) => AV.agg [AV.int IntKind.i64 (p i).lo, AV.int IntKind.i64 (p i).hi]]), AObj.var (AV.agg [AV.int IntKind.i64 (r46.v0 g a10), AV.int IntKind.i64 (r46.v1 g a10)])]) (IntKind.i64.wrap (a10 + 1)) (And.intro o4 o5) o6 (by first | (simp only [L45aa.N, h1, h2, h3, cond_true, cond_false]; done) | (try unfold L45aa.N; try simp only [h1, cond_true, cond_false]; try simp only [h2, cond_true, cond_false]; try simp only [h3, cond_true, cond_false]; try rfl; done)) (PopOk.pop rfl (by simp [L45aa.T, L45aa.X, L45aa.H, L45aa.XH]))))))))))))⟩
  | false =>
    have h1p := of_decide_eq_false h1
    exact ⟨[.b false], kmp (by kernel_rfl) (And.intro h1 (L45aa.en n g j1 j2 k p m f (k_ := k_) (z_ := a10) (.e1 : L45aa.O) (by first | (simp only [L45aa.N, h1, cond_true, cond_false]; done) | (try unfold L45aa.N; try simp only [h1, cond_true, cond_false]; try rfl; done)) PopOk.same))⟩
theorem L45aa.e0 (n : Nat) (g : Nat → PD) (hn : n ≤ 9223372036854775807) (j1 : Int) (j2 : Int) (k : Nat) (p : Nat → PD) (m : Nat) (f : Nat → Int) (hm : m ≤ n) (a10 : Int) (hinv : L45aa.inv n g j1 j2 k p m f a10) (hN : L45aa.run g m f a10 = (.e0 : L45aa.O)) : LoopTo Try.prog (loopN Try.f45 0) (L45aa.T n g j1 j2 k p m f a10) (L45aa.H n g j1 j2 k p m f a10) (Exit.ret) (L45aa.X n g j1 j2 k p m f (.e0 : L45aa.O)) (L45aa.XH n g j1 j2 k p m f (.e0 : L45aa.O)) := by
  have h_ := L45aa.spec n g hn j1 j2 k p m f hm ((((↑m : Int) - a10).toNat) + 1) a10 hinv (Nat.lt_succ_self _)
  unfold L45aa.run at hN
  simp only [hN] at h_
  exact h_
theorem L45aa.e1 (n : Nat) (g : Nat → PD) (hn : n ≤ 9223372036854775807) (j1 : Int) (j2 : Int) (k : Nat) (p : Nat → PD) (m : Nat) (f : Nat → Int) (hm : m ≤ n) (a10 : Int) (hinv : L45aa.inv n g j1 j2 k p m f a10) (hN : L45aa.run g m f a10 = (.e1 : L45aa.O)) : LoopTo Try.prog (loopN Try.f45 0) (L45aa.T n g j1 j2 k p m f a10) (L45aa.H n g j1 j2 k p m f a10) (Exit.exit 0) (L45aa.X n g j1 j2 k p m f (.e1 : L45aa.O)) (L45aa.XH n g j1 j2 k p m f (.e1 : L45aa.O)) := by
  have h_ := L45aa.spec n g hn j1 j2 k p m f hm ((((↑m : Int) - a10).toNat) + 1) a10 hinv (Nat.lt_succ_self _)
  unfold L45aa.run at hN
  simp only [hN] at h_
  exact h_

noncomputable def r45a.v (g : Nat → PD) (m : Nat) (f : Nat → Int) : Bool := (match L45aa.run g m f 0 with | .e0 => false | .e1 => true )
theorem r45a (n : Nat) (g : Nat → PD) (hn : n ≤ 9223372036854775807) (j1 : Int) (j2 : Int) (k : Nat) (p : Nat → PD) (m : Nat) (f : Nat → Int) (hm : m ≤ n) : Ret Try.prog 45 ([ivs m f, AV.fn 46 [AV.ptr 0 1 4 0 0]]) ([AObj.var (rn n g j1 j2 k p)]) (AV.bool (r45a.v g m f)) ([AObj.var (rn n g j1 j2 k p)]) := by
  have o0 : n ≤ (9223372036854775807 : Nat) := by first | assumption | omega | (simp_all; done)
  have o1 : m ≤ n := by first | assumption | omega | (simp_all; done)
  have o2 : (0 : Int) ≤ (↑m : Int) ∨ (0 : Int) ≤ (0 : Int) := by first | assumption | omega | (simp_all; done)
  cases h1 : L45aa.run g m f 0 with
  | e0 =>
    exact Ret.of_runH mix [(AV.bool (r45a.v g m f))] ([AObj.var (rn n g j1 j2 k p)]) Try.func45 rfl [.loop (others 29 [1, 8, 9, 10]) (Exit.ret) (L45aa.X n g j1 j2 k p m f L45aa.O.e0) (L45aa.XH n g j1 j2 k p m f L45aa.O.e0)] (by simp) (kmp (by kernel_rfl) (And.intro (L45aa.e0 (n) (g) o0 (j1) (j2) (k) (p) (m) (f) o1 (0) (And.intro (show (0 : Int) ≤ (0 : Int) by first | decide | exact Int.NonNeg.mk _) o2) h1) (And.intro (And.intro (show (AV.bool false) = ((AV.bool (r45a.v g m f))) by first | (simp only [r45a.v, h1, cond_true, cond_false]; done) | (try unfold r45a.v; try simp only [h1, cond_true, cond_false]; try rfl; done) | rfl) trivial) (rfl : ([AObj.var (rn n g j1 j2 k p)] : AHeap) = [AObj.var (rn n g j1 j2 k p)]))))
  | e1 =>
    exact Ret.of_runH mix [(AV.bool (r45a.v g m f))] ([AObj.var (rn n g j1 j2 k p)]) Try.func45 rfl [.loop (others 29 [1, 8, 9, 10]) (Exit.exit 0) (L45aa.X n g j1 j2 k p m f L45aa.O.e1) (L45aa.XH n g j1 j2 k p m f L45aa.O.e1)] (by simp) (kmp (by kernel_rfl) (And.intro (L45aa.e1 (n) (g) o0 (j1) (j2) (k) (p) (m) (f) o1 (0) (And.intro (show (0 : Int) ≤ (0 : Int) by first | decide | exact Int.NonNeg.mk _) o2) h1) (And.intro (And.intro (show (AV.bool true) = ((AV.bool (r45a.v g m f))) by first | (simp only [r45a.v, h1, cond_true, cond_false]; done) | (try unfold r45a.v; try simp only [h1, cond_true, cond_false]; try rfl; done) | rfl) trivial) (rfl : ([AObj.var (rn n g j1 j2 k p)] : AHeap) = [AObj.var (rn n g j1 j2 k p)]))))

inductive L45ba.O where
  | e0
  | e1
noncomputable def L45ba.T (n : Nat) (g : Nat → PD) (j1 : Int) (j2 : Int) (k : Nat) (p : Nat → PD) (m : Nat) (f : Nat → Int) (a10 : Int) : List AV := mkT 29 [(1, AV.fn 48 [AV.ptr 0 1 4 0 0]), (8, AV.sl 1 m fun (i : Nat) => AV.int IntKind.i64 (f i)), (9, AV.int IntKind.i64 (↑m : Int)), (10, AV.int IntKind.i64 a10)]
noncomputable def L45ba.H (n : Nat) (g : Nat → PD) (j1 : Int) (j2 : Int) (k : Nat) (p : Nat → PD) (m : Nat) (f : Nat → Int) (a10 : Int) : AHeap := [AObj.var (AV.agg [AV.sl 2 n fun (i : Nat) => AV.agg [AV.int IntKind.i64 (g i).lo, AV.int IntKind.i64 (g i).hi], AV.int IntKind.i64 j1, AV.int IntKind.i64 j2, AV.sl 2 k fun (i : Nat) => AV.agg [AV.int IntKind.i64 (p i).lo, AV.int IntKind.i64 (p i).hi]])]
def L45ba.inv (n : Nat) (g : Nat → PD) (j1 : Int) (j2 : Int) (k : Nat) (p : Nat → PD) (m : Nat) (f : Nat → Int) (a10 : Int) : Prop := 0 ≤ a10 ∧ (a10 ≤ (↑m : Int) ∨ a10 ≤ 0)
noncomputable def L45ba.mu (n : Nat) (g : Nat → PD) (j1 : Int) (j2 : Int) (k : Nat) (p : Nat → PD) (m : Nat) (f : Nat → Int) (a10 : Int) : Nat := ((↑m : Int) - a10).toNat
noncomputable def L45ba.E : L45ba.O → Exit
  | .e0 => Exit.ret
  | .e1 => Exit.exit 0
noncomputable def L45ba.X (n : Nat) (g : Nat → PD) (j1 : Int) (j2 : Int) (k : Nat) (p : Nat → PD) (m : Nat) (f : Nat → Int) : L45ba.O → List AV
  | .e0 => mkT 29 [(4, (AV.bool false))]
  | .e1 => mkT 29 []
noncomputable def L45ba.XH (n : Nat) (g : Nat → PD) (j1 : Int) (j2 : Int) (k : Nat) (p : Nat → PD) (m : Nat) (f : Nat → Int) : L45ba.O → AHeap
  | .e0 => ([AObj.var (AV.agg [AV.sl 2 n fun (i : Nat) => AV.agg [AV.int IntKind.i64 (g i).lo, AV.int IntKind.i64 (g i).hi], AV.int IntKind.i64 j1, AV.int IntKind.i64 j2, AV.sl 2 k fun (i : Nat) => AV.agg [AV.int IntKind.i64 (p i).lo, AV.int IntKind.i64 (p i).hi]])])
  | .e1 => ([AObj.var (AV.agg [AV.sl 2 n fun (i : Nat) => AV.agg [AV.int IntKind.i64 (g i).lo, AV.int IntKind.i64 (g i).hi], AV.int IntKind.i64 j1, AV.int IntKind.i64 j2, AV.sl 2 k fun (i : Nat) => AV.agg [AV.int IntKind.i64 (p i).lo, AV.int IntKind.i64 (p i).hi]])])
noncomputable def L45ba.N (g : Nat → PD) (m : Nat) (f : Nat → Int) : Nat → Int → L45ba.O
  | 0, _ => .e0
  | k_ + 1, a10 => (bif decide (a10 < (↑m : Int)) then (bif decide (f a10.toNat < r48.v0 g a10) then (.e0) else (bif decide (f a10.toNat > r48.v1 g a10) then (.e0) else (L45ba.N g m f k_ (IntKind.i64.wrap (a10 + 1))))) else (.e1))
noncomputable def L45ba.run (g : Nat → PD) (m : Nat) (f : Nat → Int) (a10 : Int) : L45ba.O := L45ba.N g m f ((((↑m : Int) - a10).toNat) + 1) a10
def L45ba.Next (n : Nat) (g : Nat → PD) (j1 : Int) (j2 : Int) (k : Nat) (p : Nat → PD) (m : Nat) (f : Nat → Int) (k_ : Nat) (z_ : Int) (T_ : List AV) (h_ : AHeap) : Prop := LNextP (fun (z_ : Int) => L45ba.T n g j1 j2 k p m f z_) (fun (z_ : Int) => L45ba.H n g j1 j2 k p m f z_) (fun (z_ : Int) => L45ba.inv n g j1 j2 k p m f z_) (fun (z_ : Int) => L45ba.mu n g j1 j2 k p m f z_) (fun (k_ : Nat) (z_ : Int) => L45ba.N g m f k_ z_) k_ z_ T_ h_
def L45ba.End (n : Nat) (g : Nat → PD) (j1 : Int) (j2 : Int) (k : Nat) (p : Nat → PD) (m : Nat) (f : Nat → Int) (k_ : Nat) (z_ : Int) (e_ : Exit) (T_ : List AV) (h_ : AHeap) : Prop := LEndP (fun (z_ : Int) => L45ba.H n g j1 j2 k p m f z_) (fun (k_ : Nat) (z_ : Int) => L45ba.N g m f k_ z_) L45ba.E (L45ba.X n g j1 j2 k p m f) (L45ba.XH n g j1 j2 k p m f) k_ z_ e_ T_ h_
theorem L45ba.nx (n : Nat) (g : Nat → PD) (j1 : Int) (j2 : Int) (k : Nat) (p : Nat → PD) (m : Nat) (f : Nat → Int) {k_ : Nat} {z_ : Int} {h_ : AHeap} (s_ : Int) (h1 : L45ba.inv n g j1 j2 k p m f s_) (h2 : L45ba.mu n g j1 j2 k p m f s_ < L45ba.mu n g j1 j2 k p m f z_) (h3 : L45ba.N g m f k_ s_ = L45ba.N g m f (k_ + 1) z_) (h4 : PopOk (L45ba.H n g j1 j2 k p m f z_) h_ (L45ba.T n g j1 j2 k p m f s_) (L45ba.H n g j1 j2 k p m f s_)) : LNextP (fun (z_ : Int) => L45ba.T n g j1 j2 k p m f z_) (fun (z_ : Int) => L45ba.H n g j1 j2 k p m f z_) (fun (z_ : Int) => L45ba.inv n g j1 j2 k p m f z_) (fun (z_ : Int) => L45ba.mu n g j1 j2 k p m f z_) (fun (k_ : Nat) (z_ : Int) => L45ba.N g m f k_ z_) k_ z_ (L45ba.T n g j1 j2 k p m f s_) h_ := LNextP.mk (Tm := (fun (z_ : Int) => L45ba.T n g j1 j2 k p m f z_)) (Hp := (fun (z_ : Int) => L45ba.H n g j1 j2 k p m f z_)) (inv := (fun (z_ : Int) => L45ba.inv n g j1 j2 k p m f z_)) (mu := (fun (z_ : Int) => L45ba.mu n g j1 j2 k p m f z_)) (l := (fun (k_ : Nat) (z_ : Int) => L45ba.N g m f k_ z_)) s_ h1 h2 h3 h4
theorem L45ba.en (n : Nat) (g : Nat → PD) (j1 : Int) (j2 : Int) (k : Nat) (p : Nat → PD) (m : Nat) (f : Nat → Int) {k_ : Nat} {z_ : Int} {h_ : AHeap} (o_ : L45ba.O) (h3 : L45ba.N g m f (k_ + 1) z_ = o_) (h4 : PopOk (L45ba.H n g j1 j2 k p m f z_) h_ (L45ba.X n g j1 j2 k p m f o_) (L45ba.XH n g j1 j2 k p m f o_)) : LEndP (fun (z_ : Int) => L45ba.H n g j1 j2 k p m f z_) (fun (k_ : Nat) (z_ : Int) => L45ba.N g m f k_ z_) L45ba.E (L45ba.X n g j1 j2 k p m f) (L45ba.XH n g j1 j2 k p m f) k_ z_ (L45ba.E o_) (L45ba.X n g j1 j2 k p m f o_) h_ := LEndP.mk (Hp := (fun (z_ : Int) => L45ba.H n g j1 j2 k p m f z_)) (l := (fun (k_ : Nat) (z_ : Int) => L45ba.N g m f k_ z_)) (oE := L45ba.E) (oT := L45ba.X n g j1 j2 k p m f) (oH := L45ba.XH n g j1 j2 k p m f) o_ h3 h4
noncomputable abbrev L45ba.h0 (n : Nat) (g : Nat → PD) (j1 : Int) (j2 : Int) (k : Nat) (p : Nat → PD) (m : Nat) (f : Nat → Int) (a10 : Int) : AHeap := ([AObj.var (AV.agg [AV.sl 2 n fun (i : Nat) => AV.agg [AV.int IntKind.i64 (g i).lo, AV.int IntKind.i64 (g i).hi], AV.int IntKind.i64 j1, AV.int IntKind.i64 j2, AV.sl 2 k fun (i : Nat) => AV.agg [AV.int IntKind.i64 (p i).lo, AV.int IntKind.i64 (p i).hi]])])
theorem L45ba.spec (n : Nat) (g : Nat → PD) (hn : n ≤ 9223372036854775807) (j1 : Int) (j2 : Int) (k : Nat) (p : Nat → PD) (m : Nat) (f : Nat → Int) (hm : m ≤ n) (k_ : Nat) (z_ : Int) (hi_ : L45ba.inv n g j1 j2 k p m f z_) (hm_ : L45ba.mu n g j1 j2 k p m f z_ < k_) : LoopTo Try.prog (loopN Try.f45 0) (L45ba.T n g j1 j2 k p m f z_) (L45ba.H n g j1 j2 k p m f z_) (L45ba.E (L45ba.N g m f k_ z_)) (L45ba.X n g j1 j2 k p m f (L45ba.N g m f k_ z_)) (L45ba.XH n g j1 j2 k p m f (L45ba.N g m f k_ z_)) := by
  refine LoopTo.fuelP mix (fun (z_ : Int) => L45ba.T n g j1 j2 k p m f z_) (fun (z_ : Int) => L45ba.H n g j1 j2 k p m f z_) (fun (z_ : Int) => L45ba.inv n g j1 j2 k p m f z_) (fun (z_ : Int) => L45ba.mu n g j1 j2 k p m f z_) (fun (k_ : Nat) (z_ : Int) => L45ba.N g m f k_ z_) L45ba.E (L45ba.X n g j1 j2 k p m f) (L45ba.XH n g j1 j2 k p m f) (others 29 [1, 8, 9, 10]) (others 29 [4]) (others 29 []) ?_ k_ z_ hi_ hm_
  clear hm_ hi_ z_ k_
  intro k_ z_ hinv hmu
  revert hinv hmu; revert z_; intro a10 hinv hmu
  have hinv : 0 ≤ a10 ∧ (a10 ≤ (↑m : Int) ∨ a10 ≤ 0) := hinv
  have hmu : (((↑m : Int) - a10).toNat) < k_ + 1 := hmu
  cases h1 : decide (a10 < (↑m : Int)) with
  | true =>
    have h1p := of_decide_eq_true h1
    have o0 : (0 : Int) ≤ a10 := by first | assumption | omega | (simp_all; done)
    have o1 : a10 < (↑m : Int) := by first | assumption | omega | (simp_all; done)
    have o2 : n ≤ (9223372036854775807 : Nat) := by first | assumption | omega | (simp_all; done)
    have o3 : a10 < (↑n : Int) := by first | assumption | omega | (simp_all; done)
    cases h2 : decide (f a10.toNat < r48.v0 g a10) with
    | true =>
      have h2p := of_decide_eq_true h2
      exact ⟨[.b true, .ret (AV.agg [AV.int IntKind.i64 (r48.v0 g a10), AV.int IntKind.i64 (r48.v1 g a10)]) (L45ba.h0 n g j1 j2 k p m f a10), .b true, .b true, .b true, .b true, .b true, .b true], kmp (by kernel_rfl) (And.intro h1 (And.intro (And.intro o0 o1) (And.intro (r48 (n) (g) o2 (j1) (j2) (k) (p) (a10) o0 o3) (And.intro h2 (And.intro h2 (And.intro h2 (And.intro h2 (And.intro h2 (And.intro (rfl : true = true) (L45ba.en n g j1 j2 k p m f (k_ := k_) (z_ := a10) (h_ := [AObj.var (AV.agg [AV.sl 2 n fun (i : Nat) => AV.agg [AV.int IntKind.i64 (g i).lo, AV.int IntKind.i64 (g i).hi], AV.int IntKind.i64 j1, AV.int IntKind.i64 j2, AV.sl 2 k fun (i : Nat) => AV.agg [AV.int IntKind.i64 (p i).lo, AV.int IntKind.i64 (p i).hi]]), AObj.var (AV.agg [AV.int IntKind.i64 (r48.v0 g a10), AV.int IntKind.i64 (r48.v1 g a10)])]) (.e0 : L45ba.O) (by first | (simp only [L45ba.N, h1, h2, cond_true, cond_false]; done) | (try unfold L45ba.N; try simp only [h1, cond_true, cond_false]; try simp only [h2, cond_true, cond_false]; try rfl; done)) (PopOk.pop rfl (by simp [L45ba.T, L45ba.X, L45ba.H, L45ba.XH]))))))))))))⟩
    | false =>
      have h2p := of_decide_eq_false h2
      cases h3 : decide (f a10.toNat > r48.v1 g a10) with
      | true =>
        have h3p := of_decide_eq_true h3
        exact ⟨[.b true, .ret (AV.agg [AV.int IntKind.i64 (r48.v0 g a10), AV.int IntKind.i64 (r48.v1 g a10)]) (L45ba.h0 n g j1 j2 k p m f a10), .b false, .b false, .b false, .b false, .b false, .b true], kmp (by kernel_rfl) (And.intro h1 (And.intro (And.intro o0 o1) (And.intro (r48 (n) (g) o2 (j1) (j2) (k) (p) (a10) o0 o3) (And.intro h2 (And.intro h2 (And.intro h2 (And.intro h2 (And.intro h2 (And.intro h3 (L45ba.en n g j1 j2 k p m f (k_ := k_) (z_ := a10) (h_ := [AObj.var (AV.agg [AV.sl 2 n fun (i : Nat) => AV.agg [AV.int IntKind.i64 (g i).lo, AV.int IntKind.i64 (g i).hi], AV.int IntKind.i64 j1, AV.int IntKind.i64 j2, AV.sl 2 k fun (i : Nat) => AV.agg [AV.int IntKind.i64 (p i).lo, AV.int IntKind.i64 (p i).hi]]), AObj.var (AV.agg [AV.int IntKind.i64 (r48.v0 g a10), AV.int IntKind.i64 (r48.v1 g a10)])]) (.e0 : L45ba.O) (by first | (simp only [L45ba.N, h1, h2, h3, cond_true, cond_false]; done) | (try unfold L45ba.N; try simp only [h1, cond_true, cond_false]; try simp only [h2, cond_true, cond_false]; try simp only [h3, cond_true, cond_false]; try rfl; done)) (PopOk.pop rfl (by simp [L45ba.T, L45ba.X, L45ba.H, L45ba.XH]))))))))))))⟩
      | false =>
        have h3p := of_decide_eq_false h3
        try have := IntWalk.i64_in (a10 + 1) (by omega)
        have o4 : (0 : Int) ≤ IntKind.i64.wrap (a10 + (1 : Int)) := by first | assumption | omega | (simp_all; done)
        have o5 : IntKind.i64.wrap (a10 + (1 : Int)) ≤ (↑m : Int) ∨ IntKind.i64.wrap (a10 + (1 : Int)) ≤ (0 : Int) := by first | assumption | omega | (simp_all; done)
        have o6 : ((↑m : Int) - IntKind.i64.wrap (a10 + (1 : Int))).toNat < ((↑m : Int) - a10).toNat := by first | assumption | omega | (simp_all; done)
        exact ⟨[.b true, .ret (AV.agg [AV.int IntKind.i64 (r48.v0 g a10), AV.int IntKind.i64 (r48.v1 g a10)]) (L45ba.h0 n g j1 j2 k p m f a10), .b false, .b false, .b false, .b false, .b false, .b false], kmp (by kernel_rfl) (And.intro h1 (And.intro (And.intro o0 o1) (And.intro (r48 (n) (g) o2 (j1) (j2) (k) (p) (a10) o0 o3) (And.intro h2 (And.intro h2 (And.intro h2 (And.intro h2 (And.intro h2 (And.intro h3 (L45ba.nx n g j1 j2 k p m f (k_ := k_) (z_ := a10) (h_ := [AObj.var (AV.agg [AV.sl 2 n fun (i : Nat) => AV.agg [AV.int IntKind.i64 (g i).lo, AV.int IntKind.i64 (g i).hi], AV.int IntKind.i64 j1, AV.int IntKind.i64 j2, AV.sl 2 k fun (i : Nat) => AV.agg [AV.int IntKind.i64 (p i).lo, AV.int IntKind.i64 (p i).hi]]), AObj.var (AV.agg [AV.int IntKind.i64 (r48.v0 g a10), AV.int IntKind.i64 (r48.v1 g a10)])]) (IntKind.i64.wrap (a10 + 1)) (And.intro o4 o5) o6 (by first | (simp only [L45ba.N, h1, h2, h3, cond_true, cond_false]; done) | (try unfold L45ba.N; try simp only [h1, cond_true, cond_false]; try simp only [h2, cond_true, cond_false]; try simp only [h3, cond_true, cond_false]; try rfl; done)) (PopOk.pop rfl (by simp [L45ba.T, L45ba.X, L45ba.H, L45ba.XH]))))))))))))⟩
  | false =>
    have h1p := of_decide_eq_false h1
    exact ⟨[.b false], kmp (by kernel_rfl) (And.intro h1 (L45ba.en n g j1 j2 k p m f (k_ := k_) (z_ := a10) (.e1 : L45ba.O) (by first | (simp only [L45ba.N, h1, cond_true, cond_false]; done) | (try unfold L45ba.N; try simp only [h1, cond_true, cond_false]; try rfl; done)) PopOk.same))⟩
theorem L45ba.e0 (n : Nat) (g : Nat → PD) (hn : n ≤ 9223372036854775807) (j1 : Int) (j2 : Int) (k : Nat) (p : Nat → PD) (m : Nat) (f : Nat → Int) (hm : m ≤ n) (a10 : Int) (hinv : L45ba.inv n g j1 j2 k p m f a10) (hN : L45ba.run g m f a10 = (.e0 : L45ba.O)) : LoopTo Try.prog (loopN Try.f45 0) (L45ba.T n g j1 j2 k p m f a10) (L45ba.H n g j1 j2 k p m f a10) (Exit.ret) (L45ba.X n g j1 j2 k p m f (.e0 : L45ba.O)) (L45ba.XH n g j1 j2 k p m f (.e0 : L45ba.O)) := by
  have h_ := L45ba.spec n g hn j1 j2 k p m f hm ((((↑m : Int) - a10).toNat) + 1) a10 hinv (Nat.lt_succ_self _)
  unfold L45ba.run at hN
  simp only [hN] at h_
  exact h_
theorem L45ba.e1 (n : Nat) (g : Nat → PD) (hn : n ≤ 9223372036854775807) (j1 : Int) (j2 : Int) (k : Nat) (p : Nat → PD) (m : Nat) (f : Nat → Int) (hm : m ≤ n) (a10 : Int) (hinv : L45ba.inv n g j1 j2 k p m f a10) (hN : L45ba.run g m f a10 = (.e1 : L45ba.O)) : LoopTo Try.prog (loopN Try.f45 0) (L45ba.T n g j1 j2 k p m f a10) (L45ba.H n g j1 j2 k p m f a10) (Exit.exit 0) (L45ba.X n g j1 j2 k p m f (.e1 : L45ba.O)) (L45ba.XH n g j1 j2 k p m f (.e1 : L45ba.O)) := by
  have h_ := L45ba.spec n g hn j1 j2 k p m f hm ((((↑m : Int) - a10).toNat) + 1) a10 hinv (Nat.lt_succ_self _)
  unfold L45ba.run at hN
  simp only [hN] at h_
  exact h_

noncomputable def r45b.v (g : Nat → PD) (m : Nat) (f : Nat → Int) : Bool := (match L45ba.run g m f 0 with | .e0 => false | .e1 => true )
theorem r45b (n : Nat) (g : Nat → PD) (hn : n ≤ 9223372036854775807) (j1 : Int) (j2 : Int) (k : Nat) (p : Nat → PD) (m : Nat) (f : Nat → Int) (hm : m ≤ n) : Ret Try.prog 45 ([ivs m f, AV.fn 48 [AV.ptr 0 1 4 0 0]]) ([AObj.var (rn n g j1 j2 k p)]) (AV.bool (r45b.v g m f)) ([AObj.var (rn n g j1 j2 k p)]) := by
  have o0 : n ≤ (9223372036854775807 : Nat) := by first | assumption | omega | (simp_all; done)
  have o1 : m ≤ n := by first | assumption | omega | (simp_all; done)
  have o2 : (0 : Int) ≤ (↑m : Int) ∨ (0 : Int) ≤ (0 : Int) := by first | assumption | omega | (simp_all; done)
  cases h1 : L45ba.run g m f 0 with
  | e0 =>
    exact Ret.of_runH mix [(AV.bool (r45b.v g m f))] ([AObj.var (rn n g j1 j2 k p)]) Try.func45 rfl [.loop (others 29 [1, 8, 9, 10]) (Exit.ret) (L45ba.X n g j1 j2 k p m f L45ba.O.e0) (L45ba.XH n g j1 j2 k p m f L45ba.O.e0)] (by simp) (kmp (by kernel_rfl) (And.intro (L45ba.e0 (n) (g) o0 (j1) (j2) (k) (p) (m) (f) o1 (0) (And.intro (show (0 : Int) ≤ (0 : Int) by first | decide | exact Int.NonNeg.mk _) o2) h1) (And.intro (And.intro (show (AV.bool false) = ((AV.bool (r45b.v g m f))) by first | (simp only [r45b.v, h1, cond_true, cond_false]; done) | (try unfold r45b.v; try simp only [h1, cond_true, cond_false]; try rfl; done) | rfl) trivial) (rfl : ([AObj.var (rn n g j1 j2 k p)] : AHeap) = [AObj.var (rn n g j1 j2 k p)]))))
  | e1 =>
    exact Ret.of_runH mix [(AV.bool (r45b.v g m f))] ([AObj.var (rn n g j1 j2 k p)]) Try.func45 rfl [.loop (others 29 [1, 8, 9, 10]) (Exit.exit 0) (L45ba.X n g j1 j2 k p m f L45ba.O.e1) (L45ba.XH n g j1 j2 k p m f L45ba.O.e1)] (by simp) (kmp (by kernel_rfl) (And.intro (L45ba.e1 (n) (g) o0 (j1) (j2) (k) (p) (m) (f) o1 (0) (And.intro (show (0 : Int) ≤ (0 : Int) by first | decide | exact Int.NonNeg.mk _) o2) h1) (And.intro (And.intro (show (AV.bool true) = ((AV.bool (r45b.v g m f))) by first | (simp only [r45b.v, h1, cond_true, cond_false]; done) | (try unfold r45b.v; try simp only [h1, cond_true, cond_false]; try rfl; done) | rfl) trivial) (rfl : ([AObj.var (rn n g j1 j2 k p)] : AHeap) = [AObj.var (rn n g j1 j2 k p)]))))

inductive L45ca.O where
  | e0
  | e1
noncomputable def L45ca.T (n : Nat) (g : Nat → PD) (j1 : Int) (j2 : Int) (k : Nat) (p : Nat → PD) (m : Nat) (f : Nat → Int) (a10 : Int) : List AV := mkT 29 [(1, AV.fn 49 [AV.ptr 0 1 4 0 0]), (8, AV.sl 1 m fun (i : Nat) => AV.int IntKind.i64 (f i)), (9, AV.int IntKind.i64 (↑m : Int)), (10, AV.int IntKind.i64 a10)]
noncomputable def L45ca.H (n : Nat) (g : Nat → PD) (j1 : Int) (j2 : Int) (k : Nat) (p : Nat → PD) (m : Nat) (f : Nat → Int) (a10 : Int) : AHeap := [AObj.var (AV.agg [AV.sl 2 n fun (i : Nat) => AV.agg [AV.int IntKind.i64 (g i).lo, AV.int IntKind.i64 (g i).hi], AV.int IntKind.i64 j1, AV.int IntKind.i64 j2, AV.sl 2 k fun (i : Nat) => AV.agg [AV.int IntKind.i64 (p i).lo, AV.int IntKind.i64 (p i).hi]])]
def L45ca.inv (n : Nat) (g : Nat → PD) (j1 : Int) (j2 : Int) (k : Nat) (p : Nat → PD) (m : Nat) (f : Nat → Int) (a10 : Int) : Prop := 0 ≤ a10 ∧ (a10 ≤ (↑m : Int) ∨ a10 ≤ 0)
noncomputable def L45ca.mu (n : Nat) (g : Nat → PD) (j1 : Int) (j2 : Int) (k : Nat) (p : Nat → PD) (m : Nat) (f : Nat → Int) (a10 : Int) : Nat := ((↑m : Int) - a10).toNat
noncomputable def L45ca.E : L45ca.O → Exit
  | .e0 => Exit.ret
  | .e1 => Exit.exit 0
noncomputable def L45ca.X (n : Nat) (g : Nat → PD) (j1 : Int) (j2 : Int) (k : Nat) (p : Nat → PD) (m : Nat) (f : Nat → Int) : L45ca.O → List AV
  | .e0 => mkT 29 [(4, (AV.bool false))]
  | .e1 => mkT 29 []
noncomputable def L45ca.XH (n : Nat) (g : Nat → PD) (j1 : Int) (j2 : Int) (k : Nat) (p : Nat → PD) (m : Nat) (f : Nat → Int) : L45ca.O → AHeap
  | .e0 => ([AObj.var (AV.agg [AV.sl 2 n fun (i : Nat) => AV.agg [AV.int IntKind.i64 (g i).lo, AV.int IntKind.i64 (g i).hi], AV.int IntKind.i64 j1, AV.int IntKind.i64 j2, AV.sl 2 k fun (i : Nat) => AV.agg [AV.int IntKind.i64 (p i).lo, AV.int IntKind.i64 (p i).hi]])])
  | .e1 => ([AObj.var (AV.agg [AV.sl 2 n fun (i : Nat) => AV.agg [AV.int IntKind.i64 (g i).lo, AV.int IntKind.i64 (g i).hi], AV.int IntKind.i64 j1, AV.int IntKind.i64 j2, AV.sl 2 k fun (i : Nat) => AV.agg [AV.int IntKind.i64 (p i).lo, AV.int IntKind.i64 (p i).hi]])])
noncomputable def L45ca.N (j1 : Int) (j2 : Int) (m : Nat) (f : Nat → Int) : Nat → Int → L45ca.O
  | 0, _ => .e0
  | k_ + 1, a10 => (bif decide (a10 < (↑m : Int)) then (bif decide (f a10.toNat < j1) then (.e0) else (bif decide (f a10.toNat > j2) then (.e0) else (L45ca.N j1 j2 m f k_ (IntKind.i64.wrap (a10 + 1))))) else (.e1))
noncomputable def L45ca.run (j1 : Int) (j2 : Int) (m : Nat) (f : Nat → Int) (a10 : Int) : L45ca.O := L45ca.N j1 j2 m f ((((↑m : Int) - a10).toNat) + 1) a10
def L45ca.Next (n : Nat) (g : Nat → PD) (j1 : Int) (j2 : Int) (k : Nat) (p : Nat → PD) (m : Nat) (f : Nat → Int) (k_ : Nat) (z_ : Int) (T_ : List AV) (h_ : AHeap) : Prop := LNextP (fun (z_ : Int) => L45ca.T n g j1 j2 k p m f z_) (fun (z_ : Int) => L45ca.H n g j1 j2 k p m f z_) (fun (z_ : Int) => L45ca.inv n g j1 j2 k p m f z_) (fun (z_ : Int) => L45ca.mu n g j1 j2 k p m f z_) (fun (k_ : Nat) (z_ : Int) => L45ca.N j1 j2 m f k_ z_) k_ z_ T_ h_
def L45ca.End (n : Nat) (g : Nat → PD) (j1 : Int) (j2 : Int) (k : Nat) (p : Nat → PD) (m : Nat) (f : Nat → Int) (k_ : Nat) (z_ : Int) (e_ : Exit) (T_ : List AV) (h_ : AHeap) : Prop := LEndP (fun (z_ : Int) => L45ca.H n g j1 j2 k p m f z_) (fun (k_ : Nat) (z_ : Int) => L45ca.N j1 j2 m f k_ z_) L45ca.E (L45ca.X n g j1 j2 k p m f) (L45ca.XH n g j1 j2 k p m f) k_ z_ e_ T_ h_
theorem L45ca.nx (n : Nat) (g : Nat → PD) (j1 : Int) (j2 : Int) (k : Nat) (p : Nat → PD) (m : Nat) (f : Nat → Int) {k_ : Nat} {z_ : Int} {h_ : AHeap} (s_ : Int) (h1 : L45ca.inv n g j1 j2 k p m f s_) (h2 : L45ca.mu n g j1 j2 k p m f s_ < L45ca.mu n g j1 j2 k p m f z_) (h3 : L45ca.N j1 j2 m f k_ s_ = L45ca.N j1 j2 m f (k_ + 1) z_) (h4 : PopOk (L45ca.H n g j1 j2 k p m f z_) h_ (L45ca.T n g j1 j2 k p m f s_) (L45ca.H n g j1 j2 k p m f s_)) : LNextP (fun (z_ : Int) => L45ca.T n g j1 j2 k p m f z_) (fun (z_ : Int) => L45ca.H n g j1 j2 k p m f z_) (fun (z_ : Int) => L45ca.inv n g j1 j2 k p m f z_) (fun (z_ : Int) => L45ca.mu n g j1 j2 k p m f z_) (fun (k_ : Nat) (z_ : Int) => L45ca.N j1 j2 m f k_ z_) k_ z_ (L45ca.T n g j1 j2 k p m f s_) h_ := LNextP.mk (Tm := (fun (z_ : Int) => L45ca.T n g j1 j2 k p m f z_)) (Hp := (fun (z_ : Int) => L45ca.H n g j1 j2 k p m f z_)) (inv := (fun (z_ : Int) => L45ca.inv n g j1 j2 k p m f z_)) (mu := (fun (z_ : Int) => L45ca.mu n g j1 j2 k p m f z_)) (l := (fun (k_ : Nat) (z_ : Int) => L45ca.N j1 j2 m f k_ z_)) s_ h1 h2 h3 h4
theorem L45ca.en (n : Nat) (g : Nat → PD) (j1 : Int) (j2 : Int) (k : Nat) (p : Nat → PD) (m : Nat) (f : Nat → Int) {k_ : Nat} {z_ : Int} {h_ : AHeap} (o_ : L45ca.O) (h3 : L45ca.N j1 j2 m f (k_ + 1) z_ = o_) (h4 : PopOk (L45ca.H n g j1 j2 k p m f z_) h_ (L45ca.X n g j1 j2 k p m f o_) (L45ca.XH n g j1 j2 k p m f o_)) : LEndP (fun (z_ : Int) => L45ca.H n g j1 j2 k p m f z_) (fun (k_ : Nat) (z_ : Int) => L45ca.N j1 j2 m f k_ z_) L45ca.E (L45ca.X n g j1 j2 k p m f) (L45ca.XH n g j1 j2 k p m f) k_ z_ (L45ca.E o_) (L45ca.X n g j1 j2 k p m f o_) h_ := LEndP.mk (Hp := (fun (z_ : Int) => L45ca.H n g j1 j2 k p m f z_)) (l := (fun (k_ : Nat) (z_ : Int) => L45ca.N j1 j2 m f k_ z_)) (oE := L45ca.E) (oT := L45ca.X n g j1 j2 k p m f) (oH := L45ca.XH n g j1 j2 k p m f) o_ h3 h4
noncomputable abbrev L45ca.h0 (n : Nat) (g : Nat → PD) (j1 : Int) (j2 : Int) (k : Nat) (p : Nat → PD) (m : Nat) (f : Nat → Int) (a10 : Int) : AHeap := ([AObj.var (AV.agg [AV.sl 2 n fun (i : Nat) => AV.agg [AV.int IntKind.i64 (g i).lo, AV.int IntKind.i64 (g i).hi], AV.int IntKind.i64 j1, AV.int IntKind.i64 j2, AV.sl 2 k fun (i : Nat) => AV.agg [AV.int IntKind.i64 (p i).lo, AV.int IntKind.i64 (p i).hi]])])
theorem L45ca.spec (n : Nat) (g : Nat → PD) (hn : n ≤ 9223372036854775807) (j1 : Int) (j2 : Int) (k : Nat) (p : Nat → PD) (m : Nat) (f : Nat → Int) (hm : m ≤ 9223372036854775807) (k_ : Nat) (z_ : Int) (hi_ : L45ca.inv n g j1 j2 k p m f z_) (hm_ : L45ca.mu n g j1 j2 k p m f z_ < k_) : LoopTo Try.prog (loopN Try.f45 0) (L45ca.T n g j1 j2 k p m f z_) (L45ca.H n g j1 j2 k p m f z_) (L45ca.E (L45ca.N j1 j2 m f k_ z_)) (L45ca.X n g j1 j2 k p m f (L45ca.N j1 j2 m f k_ z_)) (L45ca.XH n g j1 j2 k p m f (L45ca.N j1 j2 m f k_ z_)) := by
  refine LoopTo.fuelP mix (fun (z_ : Int) => L45ca.T n g j1 j2 k p m f z_) (fun (z_ : Int) => L45ca.H n g j1 j2 k p m f z_) (fun (z_ : Int) => L45ca.inv n g j1 j2 k p m f z_) (fun (z_ : Int) => L45ca.mu n g j1 j2 k p m f z_) (fun (k_ : Nat) (z_ : Int) => L45ca.N j1 j2 m f k_ z_) L45ca.E (L45ca.X n g j1 j2 k p m f) (L45ca.XH n g j1 j2 k p m f) (others 29 [1, 8, 9, 10]) (others 29 [4]) (others 29 []) ?_ k_ z_ hi_ hm_
  clear hm_ hi_ z_ k_
  intro k_ z_ hinv hmu
  revert hinv hmu; revert z_; intro a10 hinv hmu
  have hinv : 0 ≤ a10 ∧ (a10 ≤ (↑m : Int) ∨ a10 ≤ 0) := hinv
  have hmu : (((↑m : Int) - a10).toNat) < k_ + 1 := hmu
  cases h1 : decide (a10 < (↑m : Int)) with
  | true =>
    have h1p := of_decide_eq_true h1
    have o0 : (0 : Int) ≤ a10 := by first | assumption | omega | (simp_all; done)
    have o1 : a10 < (↑m : Int) := by first | assumption | omega | (simp_all; done)
    have o2 : n ≤ (9223372036854775807 : Nat) := by first | assumption | omega | (simp_all; done)
    cases h2 : decide (f a10.toNat < j1) with
    | true =>
      have h2p := of_decide_eq_true h2
      exact ⟨[.b true, .ret (AV.agg [AV.int IntKind.i64 j1, AV.int IntKind.i64 j2]) (L45ca.h0 n g j1 j2 k p m f a10), .b true, .b true, .b true, .b true, .b true, .b true], kmp (by kernel_rfl) (And.intro h1 (And.intro (And.intro o0 o1) (And.intro (r49 (n) (g) o2 (j1) (j2) (k) (p) (a10)) (And.intro h2 (And.intro h2 (And.intro h2 (And.intro h2 (And.intro h2 (And.intro (rfl : true = true) (L45ca.en n g j1 j2 k p m f (k_ := k_) (z_ := a10) (h_ := [AObj.var (AV.agg [AV.sl 2 n fun (i : Nat) => AV.agg [AV.int IntKind.i64 (g i).lo, AV.int IntKind.i64 (g i).hi], AV.int IntKind.i64 j1, AV.int IntKind.i64 j2, AV.sl 2 k fun (i : Nat) => AV.agg [AV.int IntKind.i64 (p i).lo, AV.int IntKind.i64 (p i).hi]]), AObj.var (AV.agg [AV.int IntKind.i64 j1, AV.int IntKind.i64 j2])]) (.e0 : L45ca.O) (by first | (simp only [L45ca.N, h1, h2, cond_true, cond_false]; done) | (try unfold L45ca.N; try simp only [h1, cond_true, cond_false]; try simp only [h2, cond_true, cond_false]; try rfl; done)) (PopOk.pop rfl (by simp [L45ca.T, L45ca.X, L45ca.H, L45ca.XH]))))))))))))⟩
    | false =>
      have h2p := of_decide_eq_false h2
      cases h3 : decide (f a10.toNat > j2) with
      | true =>
        have h3p := of_decide_eq_true h3
        exact ⟨[.b true, .ret (AV.agg [AV.int IntKind.i64 j1, AV.int IntKind.i64 j2]) (L45ca.h0 n g j1 j2 k p m f a10), .b false, .b false, .b false, .b false, .b false, .b true], kmp (by kernel_rfl) (And.intro h1 (And.intro (And.intro o0 o1) (And.intro (r49 (n) (g) o2 (j1) (j2) (k) (p) (a10)) (And.intro h2 (And.intro h2 (And.intro h2 (And.intro h2 (And.intro h2 (And.intro h3 (L45ca.en n g j1 j2 k p m f (k_ := k_) (z_ := a10) (h_ := [AObj.var (AV.agg [AV.sl 2 n fun (i : Nat) => AV.agg [AV.int IntKind.i64 (g i).lo, AV.int IntKind.i64 (g i).hi], AV.int IntKind.i64 j1, AV.int IntKind.i64 j2, AV.sl 2 k fun (i : Nat) => AV.agg [AV.int IntKind.i64 (p i).lo, AV.int IntKind.i64 (p i).hi]]), AObj.var (AV.agg [AV.int IntKind.i64 j1, AV.int IntKind.i64 j2])]) (.e0 : L45ca.O) (by first | (simp only [L45ca.N, h1, h2, h3, cond_true, cond_false]; done) | (try unfold L45ca.N; try simp only [h1, cond_true, cond_false]; try simp only [h2, cond_true, cond_false]; try simp only [h3, cond_true, cond_false]; try rfl; done)) (PopOk.pop rfl (by simp [L45ca.T, L45ca.X, L45ca.H, L45ca.XH]))))))))))))⟩
      | false =>
        have h3p := of_decide_eq_false h3
        try have := IntWalk.i64_in (a10 + 1) (by omega)
        have o3 : (0 : Int) ≤ IntKind.i64.wrap (a10 + (1 : Int)) := by first | assumption | omega | (simp_all; done)
        have o4 : IntKind.i64.wrap (a10 + (1 : Int)) ≤ (↑m : Int) ∨ IntKind.i64.wrap (a10 + (1 : Int)) ≤ (0 : Int) := by first | assumption | omega | (simp_all; done)
        have o5 : ((↑m : Int) - IntKind.i64.wrap (a10 + (1 : Int))).toNat < ((↑m : Int) - a10).toNat := by first | assumption | omega | (simp_all; done)
        exact ⟨[.b true, .ret (AV.agg [AV.int IntKind.i64 j1, AV.int IntKind.i64 j2]) (L45ca.h0 n g j1 j2 k p m f a10), .b false, .b false, .b false, .b false, .b false, .b false], kmp (by kernel_rfl) (And.intro h1 (And.intro (And.intro o0 o1) (And.intro (r49 (n) (g) o2 (j1) (j2) (k) (p) (a10)) (And.intro h2 (And.intro h2 (And.intro h2 (And.intro h2 (And.intro h2 (And.intro h3 (L45ca.nx n g j1 j2 k p m f (k_ := k_) (z_ := a10) (h_ := [AObj.var (AV.agg [AV.sl 2 n fun (i : Nat) => AV.agg [AV.int IntKind.i64 (g i).lo, AV.int IntKind.i64 (g i).hi], AV.int IntKind.i64 j1, AV.int IntKind.i64 j2, AV.sl 2 k fun (i : Nat) => AV.agg [AV.int IntKind.i64 (p i).lo, AV.int IntKind.i64 (p i).hi]]), AObj.var (AV.agg [AV.int IntKind.i64 j1, AV.int IntKind.i64 j2])]) (IntKind.i64.wrap (a10 + 1)) (And.intro o3 o4) o5 (by first | (simp only [L45ca.N, h1, h2, h3, cond_true, cond_false]; done) | (try unfold L45ca.N; try simp only [h1, cond_true, cond_false]; try simp only [h2, cond_true, cond_false]; try simp only [h3, cond_true, cond_false]; try rfl; done)) (PopOk.pop rfl (by simp [L45ca.T, L45ca.X, L45ca.H, L45ca.XH]))))))))))))⟩
  | false =>
    have h1p := of_decide_eq_false h1
    exact ⟨[.b false], kmp (by kernel_rfl) (And.intro h1 (L45ca.en n g j1 j2 k p m f (k_ := k_) (z_ := a10) (.e1 : L45ca.O) (by first | (simp only [L45ca.N, h1, cond_true, cond_false]; done) | (try unfold L45ca.N; try simp only [h1, cond_true, cond_false]; try rfl; done)) PopOk.same))⟩
theorem L45ca.e0 (n : Nat) (g : Nat → PD) (hn : n ≤ 9223372036854775807) (j1 : Int) (j2 : Int) (k : Nat) (p : Nat → PD) (m : Nat) (f : Nat → Int) (hm : m ≤ 9223372036854775807) (a10 : Int) (hinv : L45ca.inv n g j1 j2 k p m f a10) (hN : L45ca.run j1 j2 m f a10 = (.e0 : L45ca.O)) : LoopTo Try.prog (loopN Try.f45 0) (L45ca.T n g j1 j2 k p m f a10) (L45ca.H n g j1 j2 k p m f a10) (Exit.ret) (L45ca.X n g j1 j2 k p m f (.e0 : L45ca.O)) (L45ca.XH n g j1 j2 k p m f (.e0 : L45ca.O)) := by
  have h_ := L45ca.spec n g hn j1 j2 k p m f hm ((((↑m : Int) - a10).toNat) + 1) a10 hinv (Nat.lt_succ_self _)
  unfold L45ca.run at hN
  simp only [hN] at h_
  exact h_
theorem L45ca.e1 (n : Nat) (g : Nat → PD) (hn : n ≤ 9223372036854775807) (j1 : Int) (j2 : Int) (k : Nat) (p : Nat → PD) (m : Nat) (f : Nat → Int) (hm : m ≤ 9223372036854775807) (a10 : Int) (hinv : L45ca.inv n g j1 j2 k p m f a10) (hN : L45ca.run j1 j2 m f a10 = (.e1 : L45ca.O)) : LoopTo Try.prog (loopN Try.f45 0) (L45ca.T n g j1 j2 k p m f a10) (L45ca.H n g j1 j2 k p m f a10) (Exit.exit 0) (L45ca.X n g j1 j2 k p m f (.e1 : L45ca.O)) (L45ca.XH n g j1 j2 k p m f (.e1 : L45ca.O)) := by
  have h_ := L45ca.spec n g hn j1 j2 k p m f hm ((((↑m : Int) - a10).toNat) + 1) a10 hinv (Nat.lt_succ_self _)
  unfold L45ca.run at hN
  simp only [hN] at h_
  exact h_

noncomputable def r45c.v (j1 : Int) (j2 : Int) (m : Nat) (f : Nat → Int) : Bool := (match L45ca.run j1 j2 m f 0 with | .e0 => false | .e1 => true )
theorem r45c (n : Nat) (g : Nat → PD) (hn : n ≤ 9223372036854775807) (j1 : Int) (j2 : Int) (k : Nat) (p : Nat → PD) (m : Nat) (f : Nat → Int) (hm : m ≤ 9223372036854775807) : Ret Try.prog 45 ([ivs m f, AV.fn 49 [AV.ptr 0 1 4 0 0]]) ([AObj.var (rn n g j1 j2 k p)]) (AV.bool (r45c.v j1 j2 m f)) ([AObj.var (rn n g j1 j2 k p)]) := by
  have o0 : n ≤ (9223372036854775807 : Nat) := by first | assumption | omega | (simp_all; done)
  have o1 : m ≤ (9223372036854775807 : Nat) := by first | assumption | omega | (simp_all; done)
  have o2 : (0 : Int) ≤ (↑m : Int) ∨ (0 : Int) ≤ (0 : Int) := by first | assumption | omega | (simp_all; done)
  cases h1 : L45ca.run j1 j2 m f 0 with
  | e0 =>
    exact Ret.of_runH mix [(AV.bool (r45c.v j1 j2 m f))] ([AObj.var (rn n g j1 j2 k p)]) Try.func45 rfl [.loop (others 29 [1, 8, 9, 10]) (Exit.ret) (L45ca.X n g j1 j2 k p m f L45ca.O.e0) (L45ca.XH n g j1 j2 k p m f L45ca.O.e0)] (by simp) (kmp (by kernel_rfl) (And.intro (L45ca.e0 (n) (g) o0 (j1) (j2) (k) (p) (m) (f) o1 (0) (And.intro (show (0 : Int) ≤ (0 : Int) by first | decide | exact Int.NonNeg.mk _) o2) h1) (And.intro (And.intro (show (AV.bool false) = ((AV.bool (r45c.v j1 j2 m f))) by first | (simp only [r45c.v, h1, cond_true, cond_false]; done) | (try unfold r45c.v; try simp only [h1, cond_true, cond_false]; try rfl; done) | rfl) trivial) (rfl : ([AObj.var (rn n g j1 j2 k p)] : AHeap) = [AObj.var (rn n g j1 j2 k p)]))))
  | e1 =>
    exact Ret.of_runH mix [(AV.bool (r45c.v j1 j2 m f))] ([AObj.var (rn n g j1 j2 k p)]) Try.func45 rfl [.loop (others 29 [1, 8, 9, 10]) (Exit.exit 0) (L45ca.X n g j1 j2 k p m f L45ca.O.e1) (L45ca.XH n g j1 j2 k p m f L45ca.O.e1)] (by simp) (kmp (by kernel_rfl) (And.intro (L45ca.e1 (n) (g) o0 (j1) (j2) (k) (p) (m) (f) o1 (0) (And.intro (show (0 : Int) ≤ (0 : Int) by first | decide | exact Int.NonNeg.mk _) o2) h1) (And.intro (And.intro (show (AV.bool true) = ((AV.bool (r45c.v j1 j2 m f))) by first | (simp only [r45c.v, h1, cond_true, cond_false]; done) | (try unfold r45c.v; try simp only [h1, cond_true, cond_false]; try rfl; done) | rfl) trivial) (rfl : ([AObj.var (rn n g j1 j2 k p)] : AHeap) = [AObj.var (rn n g j1 j2 k p)]))))

inductive L47a.O where
  | e0 (a0 : Int)
noncomputable def L47a.T (m : Nat) (f : Nat → Int) (a3 : Int) (a8 : Int) : List AV := mkT 17 [(3, AV.int IntKind.i64 a3), (6, AV.sl 1 m fun (i : Nat) => AV.int IntKind.i64 (f i)), (7, AV.int IntKind.i64 (↑m : Int)), (8, AV.int IntKind.i64 a8)]
noncomputable def L47a.H (m : Nat) (f : Nat → Int) (a3 : Int) (a8 : Int) : AHeap := []
def L47a.inv (m : Nat) (f : Nat → Int) (a3 : Int) (a8 : Int) : Prop := 0 ≤ a8 ∧ (a8 ≤ (↑m : Int) ∨ a8 ≤ 0)
noncomputable def L47a.mu (m : Nat) (f : Nat → Int) (a3 : Int) (a8 : Int) : Nat := ((↑m : Int) - a8).toNat
noncomputable def L47a.E : L47a.O → Exit
  | .e0 a0 => Exit.exit 0
noncomputable def L47a.X (m : Nat) (f : Nat → Int) : L47a.O → List AV
  | .e0 a0 => mkT 17 [(3, (AV.int IntKind.i64 a0))]
noncomputable def L47a.XH (m : Nat) (f : Nat → Int) : L47a.O → AHeap
  | .e0 a0 => ([])
noncomputable def L47a.N (m : Nat) (f : Nat → Int) : Nat → Int → Int → L47a.O
  | 0, _, _ => .e0 default
  | k_ + 1, a3, a8 => (bif decide (a8 < (↑m : Int)) then (L47a.N m f k_ (IntKind.i64.wrap (a3 + f a8.toNat)) (IntKind.i64.wrap (a8 + 1))) else (.e0 (a3)))
noncomputable def L47a.run (m : Nat) (f : Nat → Int) (a3 : Int) (a8 : Int) : L47a.O := L47a.N m f ((((↑m : Int) - a8).toNat) + 1) a3 a8
def L47a.Next (m : Nat) (f : Nat → Int) (k_ : Nat) (z_ : Int × Int) (T_ : List AV) (h_ : AHeap) : Prop := LNextP (fun (z_ : Int × Int) => L47a.T m f z_.1 z_.2) (fun (z_ : Int × Int) => L47a.H m f z_.1 z_.2) (fun (z_ : Int × Int) => L47a.inv m f z_.1 z_.2) (fun (z_ : Int × Int) => L47a.mu m f z_.1 z_.2) (fun (k_ : Nat) (z_ : Int × Int) => L47a.N m f k_ z_.1 z_.2) k_ z_ T_ h_
def L47a.End (m : Nat) (f : Nat → Int) (k_ : Nat) (z_ : Int × Int) (e_ : Exit) (T_ : List AV) (h_ : AHeap) : Prop := LEndP (fun (z_ : Int × Int) => L47a.H m f z_.1 z_.2) (fun (k_ : Nat) (z_ : Int × Int) => L47a.N m f k_ z_.1 z_.2) L47a.E (L47a.X m f) (L47a.XH m f) k_ z_ e_ T_ h_
theorem L47a.nx (m : Nat) (f : Nat → Int) {k_ : Nat} {z_ : Int × Int} {h_ : AHeap} (s_ : Int × Int) (h1 : L47a.inv m f s_.1 s_.2) (h2 : L47a.mu m f s_.1 s_.2 < L47a.mu m f z_.1 z_.2) (h3 : L47a.N m f k_ s_.1 s_.2 = L47a.N m f (k_ + 1) z_.1 z_.2) (h4 : PopOk (L47a.H m f z_.1 z_.2) h_ (L47a.T m f s_.1 s_.2) (L47a.H m f s_.1 s_.2)) : LNextP (fun (z_ : Int × Int) => L47a.T m f z_.1 z_.2) (fun (z_ : Int × Int) => L47a.H m f z_.1 z_.2) (fun (z_ : Int × Int) => L47a.inv m f z_.1 z_.2) (fun (z_ : Int × Int) => L47a.mu m f z_.1 z_.2) (fun (k_ : Nat) (z_ : Int × Int) => L47a.N m f k_ z_.1 z_.2) k_ z_ (L47a.T m f s_.1 s_.2) h_ := LNextP.mk (Tm := (fun (z_ : Int × Int) => L47a.T m f z_.1 z_.2)) (Hp := (fun (z_ : Int × Int) => L47a.H m f z_.1 z_.2)) (inv := (fun (z_ : Int × Int) => L47a.inv m f z_.1 z_.2)) (mu := (fun (z_ : Int × Int) => L47a.mu m f z_.1 z_.2)) (l := (fun (k_ : Nat) (z_ : Int × Int) => L47a.N m f k_ z_.1 z_.2)) s_ h1 h2 h3 h4
theorem L47a.en (m : Nat) (f : Nat → Int) {k_ : Nat} {z_ : Int × Int} {h_ : AHeap} (o_ : L47a.O) (h3 : L47a.N m f (k_ + 1) z_.1 z_.2 = o_) (h4 : PopOk (L47a.H m f z_.1 z_.2) h_ (L47a.X m f o_) (L47a.XH m f o_)) : LEndP (fun (z_ : Int × Int) => L47a.H m f z_.1 z_.2) (fun (k_ : Nat) (z_ : Int × Int) => L47a.N m f k_ z_.1 z_.2) L47a.E (L47a.X m f) (L47a.XH m f) k_ z_ (L47a.E o_) (L47a.X m f o_) h_ := LEndP.mk (Hp := (fun (z_ : Int × Int) => L47a.H m f z_.1 z_.2)) (l := (fun (k_ : Nat) (z_ : Int × Int) => L47a.N m f k_ z_.1 z_.2)) (oE := L47a.E) (oT := L47a.X m f) (oH := L47a.XH m f) o_ h3 h4
theorem L47a.spec (m : Nat) (f : Nat → Int) (hm : m ≤ 9223372036854775807) (k_ : Nat) (z_ : Int × Int) (hi_ : L47a.inv m f z_.1 z_.2) (hm_ : L47a.mu m f z_.1 z_.2 < k_) : LoopTo Try.prog (loopN Try.f47 0) (L47a.T m f z_.1 z_.2) (L47a.H m f z_.1 z_.2) (L47a.E (L47a.N m f k_ z_.1 z_.2)) (L47a.X m f (L47a.N m f k_ z_.1 z_.2)) (L47a.XH m f (L47a.N m f k_ z_.1 z_.2)) := by
  refine LoopTo.fuelP mix (fun (z_ : Int × Int) => L47a.T m f z_.1 z_.2) (fun (z_ : Int × Int) => L47a.H m f z_.1 z_.2) (fun (z_ : Int × Int) => L47a.inv m f z_.1 z_.2) (fun (z_ : Int × Int) => L47a.mu m f z_.1 z_.2) (fun (k_ : Nat) (z_ : Int × Int) => L47a.N m f k_ z_.1 z_.2) L47a.E (L47a.X m f) (L47a.XH m f) (others 17 [3, 6, 7, 8]) (others 17 [2]) (others 17 [3]) ?_ k_ z_ hi_ hm_
  clear hm_ hi_ z_ k_
  intro k_ z_ hinv hmu
  obtain ⟨a3, a8⟩ := z_
  have hinv : 0 ≤ a8 ∧ (a8 ≤ (↑m : Int) ∨ a8 ≤ 0) := hinv
  have hmu : (((↑m : Int) - a8).toNat) < k_ + 1 := hmu
  cases h1 : decide (a8 < (↑m : Int)) with
  | true =>
    have h1p := of_decide_eq_true h1
    have o0 : (0 : Int) ≤ a8 := by first | assumption | omega | (simp_all; done)
    have o1 : a8 < (↑m : Int) := by first | assumption | omega | (simp_all; done)
    try have := IntWalk.i64_in (a8 + 1) (by omega)
    have o2 : (0 : Int) ≤ IntKind.i64.wrap (a8 + (1 : Int)) := by first | assumption | omega | (simp_all; done)
    have o3 : IntKind.i64.wrap (a8 + (1 : Int)) ≤ (↑m : Int) ∨ IntKind.i64.wrap (a8 + (1 : Int)) ≤ (0 : Int) := by first | assumption | omega | (simp_all; done)
    have o4 : ((↑m : Int) - IntKind.i64.wrap (a8 + (1 : Int))).toNat < ((↑m : Int) - a8).toNat := by first | assumption | omega | (simp_all; done)
    exact ⟨[.b true], kmp (by kernel_rfl) (And.intro h1 (And.intro (And.intro o0 o1) (L47a.nx m f (k_ := k_) (z_ := (a3, a8)) ((IntKind.i64.wrap (a3 + f a8.toNat), IntKind.i64.wrap (a8 + 1))) (And.intro o2 o3) o4 (by first | (simp only [L47a.N, h1, cond_true, cond_false]; done) | (try unfold L47a.N; try simp only [h1, cond_true, cond_false]; try rfl; done)) PopOk.same)))⟩
  | false =>
    have h1p := of_decide_eq_false h1
    exact ⟨[.b false], kmp (by kernel_rfl) (And.intro h1 (L47a.en m f (k_ := k_) (z_ := (a3, a8)) (.e0 (a3) : L47a.O) (by first | (simp only [L47a.N, h1, cond_true, cond_false]; done) | (try unfold L47a.N; try simp only [h1, cond_true, cond_false]; try rfl; done)) PopOk.same))⟩
theorem L47a.e0 (m : Nat) (f : Nat → Int) (hm : m ≤ 9223372036854775807) (a3 : Int) (a8 : Int) (hinv : L47a.inv m f a3 a8) (a0 : Int) (hN : L47a.run m f a3 a8 = (.e0 a0 : L47a.O)) : LoopTo Try.prog (loopN Try.f47 0) (L47a.T m f a3 a8) (L47a.H m f a3 a8) (Exit.exit 0) (L47a.X m f (.e0 a0 : L47a.O)) (L47a.XH m f (.e0 a0 : L47a.O)) := by
  have h_ := L47a.spec m f hm ((((↑m : Int) - a8).toNat) + 1) (a3, a8) hinv (Nat.lt_succ_self _)
  unfold L47a.run at hN
  simp only [hN] at h_
  exact h_

noncomputable def r47.v (m : Nat) (f : Nat → Int) : Int := (match L47a.run m f 0 0 with | .e0 h1d0 => h1d0 )
theorem r47 (m : Nat) (f : Nat → Int) (hm : m ≤ 9223372036854775807) (h : AHeap) : Ret Try.prog 47 ([ivs m f]) h (AV.int IntKind.i64 (r47.v m f)) h := by
  have o0 : m ≤ (9223372036854775807 : Nat) := by first | assumption | omega | (simp_all; done)
  have o1 : (0 : Int) ≤ (↑m : Int) ∨ (0 : Int) ≤ (0 : Int) := by first | assumption | omega | (simp_all; done)
  cases h1 : L47a.run m f 0 0 with
  | e0 h1d0 =>
    exact Ret.of_run1 mix [(AV.int IntKind.i64 (r47.v m f))] Try.func47 rfl [.loop (others 17 [3, 6, 7, 8]) (Exit.exit 0) (L47a.X m f (L47a.O.e0 h1d0)) (L47a.XH m f (L47a.O.e0 h1d0))] (by simp) (by simp) (kmp (by kernel_rfl) (And.intro (L47a.e0 (m) (f) o0 (0) (0) (And.intro (show (0 : Int) ≤ (0 : Int) by first | decide | exact Int.NonNeg.mk _) o1) h1d0 h1) (And.intro (show (AV.int IntKind.i64 h1d0) = ((AV.int IntKind.i64 (r47.v m f))) by first | (simp only [r47.v, h1, cond_true, cond_false]; done) | (try unfold r47.v; try simp only [h1, cond_true, cond_false]; try rfl; done) | rfl) trivial))) h

inductive L25a.O where
  | e0
  | e1
noncomputable def L25a.T (n : Nat) (g : Nat → PD) (j1 : Int) (j2 : Int) (k : Nat) (p : Nat → PD) (m : Nat) (f : Nat → Int) (a5 : Int) : List AV := mkT 36 [(1, AV.sl 1 m fun (i : Nat) => AV.int IntKind.i64 (f i)), (2, AV.ptr 0 1 4 0 0), (5, AV.int IntKind.i64 a5)]
noncomputable def L25a.H (n : Nat) (g : Nat → PD) (j1 : Int) (j2 : Int) (k : Nat) (p : Nat → PD) (m : Nat) (f : Nat → Int) (a5 : Int) : AHeap := [AObj.var (AV.agg [AV.sl 2 n fun (i : Nat) => AV.agg [AV.int IntKind.i64 (g i).lo, AV.int IntKind.i64 (g i).hi], AV.int IntKind.i64 j1, AV.int IntKind.i64 j2, AV.sl 2 k fun (i : Nat) => AV.agg [AV.int IntKind.i64 (p i).lo, AV.int IntKind.i64 (p i).hi]])]
def L25a.inv (n : Nat) (g : Nat → PD) (j1 : Int) (j2 : Int) (k : Nat) (p : Nat → PD) (m : Nat) (f : Nat → Int) (a5 : Int) : Prop := 0 ≤ a5 ∧ (a5 ≤ (↑m : Int) ∨ a5 ≤ 0)
noncomputable def L25a.mu (n : Nat) (g : Nat → PD) (j1 : Int) (j2 : Int) (k : Nat) (p : Nat → PD) (m : Nat) (f : Nat → Int) (a5 : Int) : Nat := ((↑m : Int) - a5).toNat
noncomputable def L25a.E : L25a.O → Exit
  | .e0 => Exit.ret
  | .e1 => Exit.exit 0
noncomputable def L25a.X (n : Nat) (g : Nat → PD) (j1 : Int) (j2 : Int) (k : Nat) (p : Nat → PD) (m : Nat) (f : Nat → Int) : L25a.O → List AV
  | .e0 => mkT 36 [(4, (AV.bool false))]
  | .e1 => mkT 36 []
noncomputable def L25a.XH (n : Nat) (g : Nat → PD) (j1 : Int) (j2 : Int) (k : Nat) (p : Nat → PD) (m : Nat) (f : Nat → Int) : L25a.O → AHeap
  | .e0 => ([AObj.var (AV.agg [AV.sl 2 n fun (i : Nat) => AV.agg [AV.int IntKind.i64 (g i).lo, AV.int IntKind.i64 (g i).hi], AV.int IntKind.i64 j1, AV.int IntKind.i64 j2, AV.sl 2 k fun (i : Nat) => AV.agg [AV.int IntKind.i64 (p i).lo, AV.int IntKind.i64 (p i).hi]])])
  | .e1 => ([AObj.var (AV.agg [AV.sl 2 n fun (i : Nat) => AV.agg [AV.int IntKind.i64 (g i).lo, AV.int IntKind.i64 (g i).hi], AV.int IntKind.i64 j1, AV.int IntKind.i64 j2, AV.sl 2 k fun (i : Nat) => AV.agg [AV.int IntKind.i64 (p i).lo, AV.int IntKind.i64 (p i).hi]])])
noncomputable def L25a.N (g : Nat → PD) (m : Nat) (f : Nat → Int) : Nat → Int → L25a.O
  | 0, _ => .e0
  | k_ + 1, a5 => (bif decide (a5 < (↑m : Int)) then (bif decide (f a5.toNat < (g a5.toNat).lo) then (.e0) else (bif decide (f a5.toNat > (g a5.toNat).hi) then (.e0) else (L25a.N g m f k_ (IntKind.i64.wrap (a5 + 1))))) else (.e1))
noncomputable def L25a.run (g : Nat → PD) (m : Nat) (f : Nat → Int) (a5 : Int) : L25a.O := L25a.N g m f ((((↑m : Int) - a5).toNat) + 1) a5
def L25a.Next (n : Nat) (g : Nat → PD) (j1 : Int) (j2 : Int) (k : Nat) (p : Nat → PD) (m : Nat) (f : Nat → Int) (k_ : Nat) (z_ : Int) (T_ : List AV) (h_ : AHeap) : Prop := LNextP (fun (z_ : Int) => L25a.T n g j1 j2 k p m f z_) (fun (z_ : Int) => L25a.H n g j1 j2 k p m f z_) (fun (z_ : Int) => L25a.inv n g j1 j2 k p m f z_) (fun (z_ : Int) => L25a.mu n g j1 j2 k p m f z_) (fun (k_ : Nat) (z_ : Int) => L25a.N g m f k_ z_) k_ z_ T_ h_
def L25a.End (n : Nat) (g : Nat → PD) (j1 : Int) (j2 : Int) (k : Nat) (p : Nat → PD) (m : Nat) (f : Nat → Int) (k_ : Nat) (z_ : Int) (e_ : Exit) (T_ : List AV) (h_ : AHeap) : Prop := LEndP (fun (z_ : Int) => L25a.H n g j1 j2 k p m f z_) (fun (k_ : Nat) (z_ : Int) => L25a.N g m f k_ z_) L25a.E (L25a.X n g j1 j2 k p m f) (L25a.XH n g j1 j2 k p m f) k_ z_ e_ T_ h_
theorem L25a.nx (n : Nat) (g : Nat → PD) (j1 : Int) (j2 : Int) (k : Nat) (p : Nat → PD) (m : Nat) (f : Nat → Int) {k_ : Nat} {z_ : Int} {h_ : AHeap} (s_ : Int) (h1 : L25a.inv n g j1 j2 k p m f s_) (h2 : L25a.mu n g j1 j2 k p m f s_ < L25a.mu n g j1 j2 k p m f z_) (h3 : L25a.N g m f k_ s_ = L25a.N g m f (k_ + 1) z_) (h4 : PopOk (L25a.H n g j1 j2 k p m f z_) h_ (L25a.T n g j1 j2 k p m f s_) (L25a.H n g j1 j2 k p m f s_)) : LNextP (fun (z_ : Int) => L25a.T n g j1 j2 k p m f z_) (fun (z_ : Int) => L25a.H n g j1 j2 k p m f z_) (fun (z_ : Int) => L25a.inv n g j1 j2 k p m f z_) (fun (z_ : Int) => L25a.mu n g j1 j2 k p m f z_) (fun (k_ : Nat) (z_ : Int) => L25a.N g m f k_ z_) k_ z_ (L25a.T n g j1 j2 k p m f s_) h_ := LNextP.mk (Tm := (fun (z_ : Int) => L25a.T n g j1 j2 k p m f z_)) (Hp := (fun (z_ : Int) => L25a.H n g j1 j2 k p m f z_)) (inv := (fun (z_ : Int) => L25a.inv n g j1 j2 k p m f z_)) (mu := (fun (z_ : Int) => L25a.mu n g j1 j2 k p m f z_)) (l := (fun (k_ : Nat) (z_ : Int) => L25a.N g m f k_ z_)) s_ h1 h2 h3 h4
theorem L25a.en (n : Nat) (g : Nat → PD) (j1 : Int) (j2 : Int) (k : Nat) (p : Nat → PD) (m : Nat) (f : Nat → Int) {k_ : Nat} {z_ : Int} {h_ : AHeap} (o_ : L25a.O) (h3 : L25a.N g m f (k_ + 1) z_ = o_) (h4 : PopOk (L25a.H n g j1 j2 k p m f z_) h_ (L25a.X n g j1 j2 k p m f o_) (L25a.XH n g j1 j2 k p m f o_)) : LEndP (fun (z_ : Int) => L25a.H n g j1 j2 k p m f z_) (fun (k_ : Nat) (z_ : Int) => L25a.N g m f k_ z_) L25a.E (L25a.X n g j1 j2 k p m f) (L25a.XH n g j1 j2 k p m f) k_ z_ (L25a.E o_) (L25a.X n g j1 j2 k p m f o_) h_ := LEndP.mk (Hp := (fun (z_ : Int) => L25a.H n g j1 j2 k p m f z_)) (l := (fun (k_ : Nat) (z_ : Int) => L25a.N g m f k_ z_)) (oE := L25a.E) (oT := L25a.X n g j1 j2 k p m f) (oH := L25a.XH n g j1 j2 k p m f) o_ h3 h4
theorem L25a.spec (n : Nat) (g : Nat → PD) (hn : n ≤ 9223372036854775807) (j1 : Int) (j2 : Int) (k : Nat) (p : Nat → PD) (m : Nat) (f : Nat → Int) (hm : m ≤ n) (k_ : Nat) (z_ : Int) (hi_ : L25a.inv n g j1 j2 k p m f z_) (hm_ : L25a.mu n g j1 j2 k p m f z_ < k_) : LoopTo Try.prog (loopN Try.f25 0) (L25a.T n g j1 j2 k p m f z_) (L25a.H n g j1 j2 k p m f z_) (L25a.E (L25a.N g m f k_ z_)) (L25a.X n g j1 j2 k p m f (L25a.N g m f k_ z_)) (L25a.XH n g j1 j2 k p m f (L25a.N g m f k_ z_)) := by
  refine LoopTo.fuelP mix (fun (z_ : Int) => L25a.T n g j1 j2 k p m f z_) (fun (z_ : Int) => L25a.H n g j1 j2 k p m f z_) (fun (z_ : Int) => L25a.inv n g j1 j2 k p m f z_) (fun (z_ : Int) => L25a.mu n g j1 j2 k p m f z_) (fun (k_ : Nat) (z_ : Int) => L25a.N g m f k_ z_) L25a.E (L25a.X n g j1 j2 k p m f) (L25a.XH n g j1 j2 k p m f) (others 36 [1, 2, 5]) (others 36 [4]) (others 36 []) ?_ k_ z_ hi_ hm_
  clear hm_ hi_ z_ k_
  intro k_ z_ hinv hmu
  revert hinv hmu; revert z_; intro a5 hinv hmu
  have hinv : 0 ≤ a5 ∧ (a5 ≤ (↑m : Int) ∨ a5 ≤ 0) := hinv
  have hmu : (((↑m : Int) - a5).toNat) < k_ + 1 := hmu
  cases h1 : decide (a5 < (↑m : Int)) with
  | true =>
    have h1p := of_decide_eq_true h1
    have o0 : (0 : Int) ≤ a5 := by first | assumption | omega | (simp_all; done)
    have o1 : a5 < (↑m : Int) := by first | assumption | omega | (simp_all; done)
    have o2 : a5 < (↑n : Int) := by first | assumption | omega | (simp_all; done)
    cases h2 : decide (f a5.toNat < (g a5.toNat).lo) with
    | true =>
      have h2p := of_decide_eq_true h2
      exact ⟨[.b true, .b true, .b true, .b true, .b true, .b true, .b true, .b true, .b true, .b true, .b true, .b true, .b true, .b true], kmp (by kernel_rfl) (And.intro h1 (And.intro (And.intro o0 o1) (And.intro (And.intro o0 o2) (And.intro h2 (And.intro h2 (And.intro h2 (And.intro h2 (And.intro h2 (And.intro h2 (And.intro h2 (And.intro h2 (And.intro h2 (And.intro h2 (And.intro h2 (And.intro h2 (And.intro (rfl : true = true) (L25a.en n g j1 j2 k p m f (k_ := k_) (z_ := a5) (.e0 : L25a.O) (by first | (simp only [L25a.N, h1, h2, cond_true, cond_false]; done) | (try unfold L25a.N; try simp only [h1, cond_true, cond_false]; try simp only [h2, cond_true, cond_false]; try rfl; done)) PopOk.same)))))))))))))))))⟩
    | false =>
      have h2p := of_decide_eq_false h2
      cases h3 : decide (f a5.toNat > (g a5.toNat).hi) with
      | true =>
        have h3p := of_decide_eq_true h3
        exact ⟨[.b true, .b false, .b false, .b false, .b false, .b false, .b false, .b false, .b false, .b false, .b false, .b false, .b false, .b true], kmp (by kernel_rfl) (And.intro h1 (And.intro (And.intro o0 o1) (And.intro (And.intro o0 o2) (And.intro h2 (And.intro h2 (And.intro h2 (And.intro (And.intro o0 o1) (And.intro h2 (And.intro h2 (And.intro h2 (And.intro h2 (And.intro h2 (And.intro (And.intro o0 o2) (And.intro h2 (And.intro h2 (And.intro h2 (And.intro h2 (And.intro h3 (L25a.en n g j1 j2 k p m f (k_ := k_) (z_ := a5) (.e0 : L25a.O) (by first | (simp only [L25a.N, h1, h2, h3, cond_true, cond_false]; done) | (try unfold L25a.N; try simp only [h1, cond_true, cond_false]; try simp only [h2, cond_true, cond_false]; try simp only [h3, cond_true, cond_false]; try rfl; done)) PopOk.same)))))))))))))))))))⟩
      | false =>
        have h3p := of_decide_eq_false h3
        try have := IntWalk.i64_in (a5 + 1) (by omega)
        have o3 : (0 : Int) ≤ IntKind.i64.wrap (a5 + (1 : Int)) := by first | assumption | omega | (simp_all; done)
        have o4 : IntKind.i64.wrap (a5 + (1 : Int)) ≤ (↑m : Int) ∨ IntKind.i64.wrap (a5 + (1 : Int)) ≤ (0 : Int) := by first | assumption | omega | (simp_all; done)
        have o5 : ((↑m : Int) - IntKind.i64.wrap (a5 + (1 : Int))).toNat < ((↑m : Int) - a5).toNat := by first | assumption | omega | (simp_all; done)
        exact ⟨[.b true, .b false, .b false, .b false, .b false, .b false, .b false, .b false, .b false, .b false, .b false, .b false, .b false, .b false], kmp (by kernel_rfl) (And.intro h1 (And.intro (And.intro o0 o1) (And.intro (And.intro o0 o2) (And.intro h2 (And.intro h2 (And.intro h2 (And.intro (And.intro o0 o1) (And.intro h2 (And.intro h2 (And.intro h2 (And.intro h2 (And.intro h2 (And.intro (And.intro o0 o2) (And.intro h2 (And.intro h2 (And.intro h2 (And.intro h2 (And.intro h3 (L25a.nx n g j1 j2 k p m f (k_ := k_) (z_ := a5) (IntKind.i64.wrap (a5 + 1)) (And.intro o3 o4) o5 (by first | (simp only [L25a.N, h1, h2, h3, cond_true, cond_false]; done) | (try unfold L25a.N; try simp only [h1, cond_true, cond_false]; try simp only [h2, cond_true, cond_false]; try simp only [h3, cond_true, cond_false]; try rfl; done)) PopOk.same)))))))))))))))))))⟩
  | false =>
    have h1p := of_decide_eq_false h1
    exact ⟨[.b false], kmp (by kernel_rfl) (And.intro h1 (L25a.en n g j1 j2 k p m f (k_ := k_) (z_ := a5) (.e1 : L25a.O) (by first | (simp only [L25a.N, h1, cond_true, cond_false]; done) | (try unfold L25a.N; try simp only [h1, cond_true, cond_false]; try rfl; done)) PopOk.same))⟩
theorem L25a.e0 (n : Nat) (g : Nat → PD) (hn : n ≤ 9223372036854775807) (j1 : Int) (j2 : Int) (k : Nat) (p : Nat → PD) (m : Nat) (f : Nat → Int) (hm : m ≤ n) (a5 : Int) (hinv : L25a.inv n g j1 j2 k p m f a5) (hN : L25a.run g m f a5 = (.e0 : L25a.O)) : LoopTo Try.prog (loopN Try.f25 0) (L25a.T n g j1 j2 k p m f a5) (L25a.H n g j1 j2 k p m f a5) (Exit.ret) (L25a.X n g j1 j2 k p m f (.e0 : L25a.O)) (L25a.XH n g j1 j2 k p m f (.e0 : L25a.O)) := by
  have h_ := L25a.spec n g hn j1 j2 k p m f hm ((((↑m : Int) - a5).toNat) + 1) a5 hinv (Nat.lt_succ_self _)
  unfold L25a.run at hN
  simp only [hN] at h_
  exact h_
theorem L25a.e1 (n : Nat) (g : Nat → PD) (hn : n ≤ 9223372036854775807) (j1 : Int) (j2 : Int) (k : Nat) (p : Nat → PD) (m : Nat) (f : Nat → Int) (hm : m ≤ n) (a5 : Int) (hinv : L25a.inv n g j1 j2 k p m f a5) (hN : L25a.run g m f a5 = (.e1 : L25a.O)) : LoopTo Try.prog (loopN Try.f25 0) (L25a.T n g j1 j2 k p m f a5) (L25a.H n g j1 j2 k p m f a5) (Exit.exit 0) (L25a.X n g j1 j2 k p m f (.e1 : L25a.O)) (L25a.XH n g j1 j2 k p m f (.e1 : L25a.O)) := by
  have h_ := L25a.spec n g hn j1 j2 k p m f hm ((((↑m : Int) - a5).toNat) + 1) a5 hinv (Nat.lt_succ_self _)
  unfold L25a.run at hN
  simp only [hN] at h_
  exact h_

noncomputable def r25.v (g : Nat → PD) (m : Nat) (f : Nat → Int) : Bool := (match L25a.run g m f 0 with | .e0 => false | .e1 => true )
theorem r25 (n : Nat) (g : Nat → PD) (hn : n ≤ 9223372036854775807) (j1 : Int) (j2 : Int) (k : Nat) (p : Nat → PD) (m : Nat) (f : Nat → Int) (hm : m ≤ n) (h : AHeap) : Ret Try.prog 25 ([rn n g j1 j2 k p, ivs m f]) h (AV.bool (r25.v g m f)) h := by
  have o0 : n ≤ (9223372036854775807 : Nat) := by first | assumption | omega | (simp_all; done)
  have o1 : m ≤ n := by first | assumption | omega | (simp_all; done)
  have o2 : (0 : Int) ≤ (↑m : Int) ∨ (0 : Int) ≤ (0 : Int) := by first | assumption | omega | (simp_all; done)
  cases h1 : L25a.run g m f 0 with
  | e0 =>
    exact Ret.of_run1 mix [(AV.bool (r25.v g m f))] Try.func25 rfl [.loop (others 36 [1, 2, 5]) (Exit.ret) (L25a.X n g j1 j2 k p m f L25a.O.e0) (L25a.XH n g j1 j2 k p m f L25a.O.e0)] (by simp) (by simp) (kmp (by kernel_rfl) (And.intro (L25a.e0 (n) (g) o0 (j1) (j2) (k) (p) (m) (f) o1 (0) (And.intro (show (0 : Int) ≤ (0 : Int) by first | decide | exact Int.NonNeg.mk _) o2) h1) (And.intro (show (AV.bool false) = ((AV.bool (r25.v g m f))) by first | (simp only [r25.v, h1, cond_true, cond_false]; done) | (try unfold r25.v; try simp only [h1, cond_true, cond_false]; try rfl; done) | rfl) trivial))) h
  | e1 =>
    exact Ret.of_run1 mix [(AV.bool (r25.v g m f))] Try.func25 rfl [.loop (others 36 [1, 2, 5]) (Exit.exit 0) (L25a.X n g j1 j2 k p m f L25a.O.e1) (L25a.XH n g j1 j2 k p m f L25a.O.e1)] (by simp) (by simp) (kmp (by kernel_rfl) (And.intro (L25a.e1 (n) (g) o0 (j1) (j2) (k) (p) (m) (f) o1 (0) (And.intro (show (0 : Int) ≤ (0 : Int) by first | decide | exact Int.NonNeg.mk _) o2) h1) (And.intro (show (AV.bool true) = ((AV.bool (r25.v g m f))) by first | (simp only [r25.v, h1, cond_true, cond_false]; done) | (try unfold r25.v; try simp only [h1, cond_true, cond_false]; try rfl; done) | rfl) trivial))) h

end Go.Proofs.Ytjdakdjgkpfjkaa
