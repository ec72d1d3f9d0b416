/- ToleranceFails: whatever the input, the law hands back true. Conditions: none. -/
import Derived.Test.YtjdakdjgkpfjkaaK93

/- the tolerance seat's contracts: the reference's Closes and Greatest, pick. -/
open Go
namespace Go.Proofs.Ytjdakdjgkpfjkaa
set_option linter.unusedSimpArgs false
set_option linter.unusedVariables false
set_option maxHeartbeats 0
set_option maxRecDepth 100000
noncomputable def r53.v (n : Nat) (g : Nat → PD) (j1 : Int) (j2 : Int) (k : Nat) (p : Nat → PD) : Bool := decide (r20.v0 n g j1 j2 k p < 0)
theorem r53 (n : Nat) (g : Nat → PD) (hn : n ≤ 9223372036854775807) (j1 : Int) (j2 : Int) (k : Nat) (p : Nat → PD) (hk : k ≤ 30) (hr : ROk n g j1 j2 k p) (h : AHeap) : Ret Try.prog 53 ([rn n g j1 j2 k p]) h (AV.bool (r53.v n g j1 j2 k p)) h := by
  have o0 : n ≤ (9223372036854775807 : Nat) := by first | assumption | omega | (simp_all; done)
  have o1 : k ≤ (30 : Nat) := by first | assumption | omega | (simp_all; done)
  have o2 : ROk n g j1 j2 k p := by first | assumption | (simp_all; done)
  exact Ret.of_run1 mix [(AV.bool (r53.v n g j1 j2 k p))] Try.func53 rfl [.ret (AV.tup [AV.int IntKind.i64 (r20.v0 n g j1 j2 k p), AV.sl 1 (r20.v1 n g j1 j2 k p).length fun (a : Nat) => AV.int IntKind.i64 ((r20.v1 n g j1 j2 k p).getD a 0)]) ([AObj.var (AV.agg [AV.sl 2 n fun (i : Nat) => AV.agg [AV.int IntKind.i64 (g i).lo, AV.int IntKind.i64 (g i).hi], AV.int IntKind.i64 j1, AV.int IntKind.i64 j2, AV.sl 2 k fun (i : Nat) => AV.agg [AV.int IntKind.i64 (p i).lo, AV.int IntKind.i64 (p i).hi]])])] (by simp) (by simp) (kmp (by kernel_rfl) (And.intro (r20 (n) (g) o0 (j1) (j2) (k) (p) o1 o2 ([AObj.var (AV.agg [AV.sl 2 n fun (i : Nat) => AV.agg [AV.int IntKind.i64 (g i).lo, AV.int IntKind.i64 (g i).hi], AV.int IntKind.i64 j1, AV.int IntKind.i64 j2, AV.sl 2 k fun (i : Nat) => AV.agg [AV.int IntKind.i64 (p i).lo, AV.int IntKind.i64 (p i).hi]])])) (And.intro (show (AV.bool (decide (r20.v0 n g j1 j2 k p < 0))) = ((AV.bool (r53.v n g j1 j2 k p))) by first | (simp only [r53.v, cond_true, cond_false]; done) | (try unfold r53.v; try rfl; done) | rfl) trivial))) h

inductive L29a.O where
  | e0 (a0 : Int)
noncomputable def L29a.T (m : Nat) (f : Nat → Int) (j1 : Int) (j2 : Int) (k : Nat) (p : Nat → PD) (a9 : Int) (a10 : Int) : List AV := mkT 40 [(0, AV.sl 1 m fun (i : Nat) => AV.int IntKind.i64 (f i)), (2, AV.sl 2 k fun (i : Nat) => AV.agg [AV.int IntKind.i64 (p i).lo, AV.int IntKind.i64 (p i).hi]), (4, AV.ptr 0 1 2 0 0), (9, AV.int IntKind.i64 a9), (10, AV.int IntKind.i64 a10)]
noncomputable def L29a.H (m : Nat) (f : Nat → Int) (j1 : Int) (j2 : Int) (k : Nat) (p : Nat → PD) (a9 : Int) (a10 : Int) : AHeap := [AObj.var (AV.agg [AV.int IntKind.i64 j1, AV.int IntKind.i64 j2])]
def L29a.inv (m : Nat) (f : Nat → Int) (j1 : Int) (j2 : Int) (k : Nat) (p : Nat → PD) (a9 : Int) (a10 : Int) : Prop := 0 ≤ a10 ∧ (a10 ≤ 100 + 1 ∨ a10 ≤ 0)
noncomputable def L29a.mu (m : Nat) (f : Nat → Int) (j1 : Int) (j2 : Int) (k : Nat) (p : Nat → PD) (a9 : Int) (a10 : Int) : Nat := (100 + 1 - a10).toNat
noncomputable def L29a.E : L29a.O → Exit
  | .e0 a0 => Exit.exit 0
noncomputable def L29a.X (m : Nat) (f : Nat → Int) (j1 : Int) (j2 : Int) (k : Nat) (p : Nat → PD) : L29a.O → List AV
  | .e0 a0 => mkT 40 [(9, (AV.int IntKind.i64 a0))]
noncomputable def L29a.XH (m : Nat) (f : Nat → Int) (j1 : Int) (j2 : Int) (k : Nat) (p : Nat → PD) : L29a.O → AHeap
  | .e0 a0 => ([AObj.var (AV.agg [AV.int IntKind.i64 j1, AV.int IntKind.i64 j2])])
noncomputable def L29a.N (m : Nat) (f : Nat → Int) (j1 : Int) (j2 : Int) (k : Nat) (p : Nat → PD) : Nat → Int → Int → L29a.O
  | 0, _, _ => .e0 default
  | k_ + 1, a9, a10 => (bif decide (a10 ≤ 100) then (bif r15.v m (W m f a10) j1 j2 k p == 0 then (bif r53.v m (W m f a10) j1 j2 k p then (L29a.N m f j1 j2 k p k_ (a10) (IntKind.i64.wrap (a10 + 1))) else (L29a.N m f j1 j2 k p k_ (a9) (IntKind.i64.wrap (a10 + 1)))) else (L29a.N m f j1 j2 k p k_ (a9) (IntKind.i64.wrap (a10 + 1)))) else (.e0 (a9)))
noncomputable def L29a.run (m : Nat) (f : Nat → Int) (j1 : Int) (j2 : Int) (k : Nat) (p : Nat → PD) (a9 : Int) (a10 : Int) : L29a.O := L29a.N m f j1 j2 k p (((100 + 1 - a10).toNat) + 1) a9 a10
def L29a.Next (m : Nat) (f : Nat → Int) (j1 : Int) (j2 : Int) (k : Nat) (p : Nat → PD) (k_ : Nat) (z_ : Int × Int) (T_ : List AV) (h_ : AHeap) : Prop := LNextP (fun (z_ : Int × Int) => L29a.T m f j1 j2 k p z_.1 z_.2) (fun (z_ : Int × Int) => L29a.H m f j1 j2 k p z_.1 z_.2) (fun (z_ : Int × Int) => L29a.inv m f j1 j2 k p z_.1 z_.2) (fun (z_ : Int × Int) => L29a.mu m f j1 j2 k p z_.1 z_.2) (fun (k_ : Nat) (z_ : Int × Int) => L29a.N m f j1 j2 k p k_ z_.1 z_.2) k_ z_ T_ h_
def L29a.End (m : Nat) (f : Nat → Int) (j1 : Int) (j2 : Int) (k : Nat) (p : Nat → PD) (k_ : Nat) (z_ : Int × Int) (e_ : Exit) (T_ : List AV) (h_ : AHeap) : Prop := LEndP (fun (z_ : Int × Int) => L29a.H m f j1 j2 k p z_.1 z_.2) (fun (k_ : Nat) (z_ : Int × Int) => L29a.N m f j1 j2 k p k_ z_.1 z_.2) L29a.E (L29a.X m f j1 j2 k p) (L29a.XH m f j1 j2 k p) k_ z_ e_ T_ h_
theorem L29a.nx (m : Nat) (f : Nat → Int) (j1 : Int) (j2 : Int) (k : Nat) (p : Nat → PD) {k_ : Nat} {z_ : Int × Int} {h_ : AHeap} (s_ : Int × Int) (h1 : L29a.inv m f j1 j2 k p s_.1 s_.2) (h2 : L29a.mu m f j1 j2 k p s_.1 s_.2 < L29a.mu m f j1 j2 k p z_.1 z_.2) (h3 : L29a.N m f j1 j2 k p k_ s_.1 s_.2 = L29a.N m f j1 j2 k p (k_ + 1) z_.1 z_.2) (h4 : PopOk (L29a.H m f j1 j2 k p z_.1 z_.2) h_ (L29a.T m f j1 j2 k p s_.1 s_.2) (L29a.H m f j1 j2 k p s_.1 s_.2)) : LNextP (fun (z_ : Int × Int) => L29a.T m f j1 j2 k p z_.1 z_.2) (fun (z_ : Int × Int) => L29a.H m f j1 j2 k p z_.1 z_.2) (fun (z_ : Int × Int) => L29a.inv m f j1 j2 k p z_.1 z_.2) (fun (z_ : Int × Int) => L29a.mu m f j1 j2 k p z_.1 z_.2) (fun (k_ : Nat) (z_ : Int × Int) => L29a.N m f j1 j2 k p k_ z_.1 z_.2) k_ z_ (L29a.T m f j1 j2 k p s_.1 s_.2) h_ := LNextP.mk (Tm := (fun (z_ : Int × Int) => L29a.T m f j1 j2 k p z_.1 z_.2)) (Hp := (fun (z_ : Int × Int) => L29a.H m f j1 j2 k p z_.1 z_.2)) (inv := (fun (z_ : Int × Int) => L29a.inv m f j1 j2 k p z_.1 z_.2)) (mu := (fun (z_ : Int × Int) => L29a.mu m f j1 j2 k p z_.1 z_.2)) (l := (fun (k_ : Nat) (z_ : Int × Int) => L29a.N m f j1 j2 k p k_ z_.1 z_.2)) s_ h1 h2 h3 h4
theorem L29a.en (m : Nat) (f : Nat → Int) (j1 : Int) (j2 : Int) (k : Nat) (p : Nat → PD) {k_ : Nat} {z_ : Int × Int} {h_ : AHeap} (o_ : L29a.O) (h3 : L29a.N m f j1 j2 k p (k_ + 1) z_.1 z_.2 = o_) (h4 : PopOk (L29a.H m f j1 j2 k p z_.1 z_.2) h_ (L29a.X m f j1 j2 k p o_) (L29a.XH m f j1 j2 k p o_)) : LEndP (fun (z_ : Int × Int) => L29a.H m f j1 j2 k p z_.1 z_.2) (fun (k_ : Nat) (z_ : Int × Int) => L29a.N m f j1 j2 k p k_ z_.1 z_.2) L29a.E (L29a.X m f j1 j2 k p) (L29a.XH m f j1 j2 k p) k_ z_ (L29a.E o_) (L29a.X m f j1 j2 k p o_) h_ := LEndP.mk (Hp := (fun (z_ : Int × Int) => L29a.H m f j1 j2 k p z_.1 z_.2)) (l := (fun (k_ : Nat) (z_ : Int × Int) => L29a.N m f j1 j2 k p k_ z_.1 z_.2)) (oE := L29a.E) (oT := L29a.X m f j1 j2 k p) (oH := L29a.XH m f j1 j2 k p) o_ h3 h4
noncomputable abbrev L29a.h0 (m : Nat) (f : Nat → Int) (j1 : Int) (j2 : Int) (k : Nat) (p : Nat → PD) (a9 : Int) (a10 : Int) : AHeap := ([AObj.var (AV.agg [AV.int IntKind.i64 j1, AV.int IntKind.i64 j2])])
noncomputable abbrev L29a.h1 (m : Nat) (f : Nat → Int) (j1 : Int) (j2 : Int) (k : Nat) (p : Nat → PD) (a9 : Int) (a10 : Int) : AHeap := ([AObj.var (AV.agg [AV.int IntKind.i64 j1, AV.int IntKind.i64 j2]), AObj.var (AV.agg [AV.sl 2 m fun (i : Nat) => AV.agg [AV.int IntKind.i64 (W m f a10 i).lo, AV.int IntKind.i64 (W m f a10 i).hi], AV.int IntKind.i64 j1, AV.int IntKind.i64 j2, AV.sl 2 k fun (i : Nat) => AV.agg [AV.int IntKind.i64 (p i).lo, AV.int IntKind.i64 (p i).hi]])])
theorem L29a.spec (m : Nat) (f : Nat → Int) (hm : m ≤ 512) (j1 : Int) (j2 : Int) (k : Nat) (p : Nat → PD) (hk : k ≤ 30) (k0_1 : (r15.v m (W m f 0) j1 j2 k p == 0) = true) (p0_1 : r15.v m (W m f 0) j1 j2 k p = 0) (k_ : Nat) (z_ : Int × Int) (hi_ : L29a.inv m f j1 j2 k p z_.1 z_.2) (hm_ : L29a.mu m f j1 j2 k p z_.1 z_.2 < k_) : LoopTo Try.prog (loopN Try.f29 0) (L29a.T m f j1 j2 k p z_.1 z_.2) (L29a.H m f j1 j2 k p z_.1 z_.2) (L29a.E (L29a.N m f j1 j2 k p k_ z_.1 z_.2)) (L29a.X m f j1 j2 k p (L29a.N m f j1 j2 k p k_ z_.1 z_.2)) (L29a.XH m f j1 j2 k p (L29a.N m f j1 j2 k p k_ z_.1 z_.2)) := by
  refine LoopTo.fuelP mix (fun (z_ : Int × Int) => L29a.T m f j1 j2 k p z_.1 z_.2) (fun (z_ : Int × Int) => L29a.H m f j1 j2 k p z_.1 z_.2) (fun (z_ : Int × Int) => L29a.inv m f j1 j2 k p z_.1 z_.2) (fun (z_ : Int × Int) => L29a.mu m f j1 j2 k p z_.1 z_.2) (fun (k_ : Nat) (z_ : Int × Int) => L29a.N m f j1 j2 k p k_ z_.1 z_.2) L29a.E (L29a.X m f j1 j2 k p) (L29a.XH m f j1 j2 k p) (others 40 [0, 2, 4, 9, 10]) (others 40 [6, 7]) (others 40 [9]) ?_ k_ z_ hi_ hm_
  clear hm_ hi_ z_ k_
  intro k_ z_ hinv hmu
  obtain ⟨a9, a10⟩ := z_
  have hinv : 0 ≤ a10 ∧ (a10 ≤ 100 + 1 ∨ a10 ≤ 0) := hinv
  have hmu : ((100 + 1 - a10).toNat) < k_ + 1 := hmu
  cases h1 : decide (a10 ≤ 100) with
  | true =>
    have h1p := of_decide_eq_true h1
    have o0 : m ≤ (512 : Nat) := by first | assumption | omega | (simp_all; done)
    have o1 : m ≤ (9223372036854775807 : Nat) := by first | assumption | omega | (simp_all; done)
    have o2 : k ≤ (9223372036854775807 : Nat) := by first | assumption | omega | (simp_all; done)
    cases h2 : r15.v m (W m f a10) j1 j2 k p == 0 with
    | true =>
      have h2p := eq_of_beq h2
      have o3 : k ≤ (30 : Nat) := by first | assumption | omega | (simp_all; done)
      have o4 : ROk m (W m f a10) j1 j2 k p := by first | assumption | (apply ok15 <;> first | assumption | omega) | (simp_all; done)
      cases h3 : r53.v m (W m f a10) j1 j2 k p with
      | true =>
        try have := IntWalk.i64_in (a10 + 1) (by omega)
        have o5 : (0 : Int) ≤ IntKind.i64.wrap (a10 + (1 : Int)) := by first | assumption | omega | (simp_all; done)
        have o6 : IntKind.i64.wrap (a10 + (1 : Int)) ≤ (101 : Int) ∨ IntKind.i64.wrap (a10 + (1 : Int)) ≤ (0 : Int) := by first | assumption | omega | (simp_all; done)
        have o7 : ((101 : Int) - IntKind.i64.wrap (a10 + (1 : Int))).toNat < ((101 : Int) - a10).toNat := by first | assumption | omega | (simp_all; done)
        exact ⟨[.b true, .ret (AV.agg [AV.sl 2 m fun (i : Nat) => AV.agg [AV.int IntKind.i64 (W m f a10 i).lo, AV.int IntKind.i64 (W m f a10 i).hi], AV.int IntKind.i64 j1, AV.int IntKind.i64 j2, AV.sl 2 k fun (i : Nat) => AV.agg [AV.int IntKind.i64 (p i).lo, AV.int IntKind.i64 (p i).hi]]) (L29a.h0 m f j1 j2 k p a9 a10), .ret (AV.int IntKind.i64 (r15.v m (W m f a10) j1 j2 k p)) (L29a.h1 m f j1 j2 k p a9 a10), .b true, .b true, .ret (AV.bool (r53.v m (W m f a10) j1 j2 k p)) (L29a.h1 m f j1 j2 k p a9 a10), .b true, .b true], kmp (by kernel_rfl) (And.intro h1 (And.intro (c52w (m) (f) o0 (j1) (j2) (k) (p) (a10) (L29a.h0 m f j1 j2 k p a9 a10)) (And.intro (r15 (m) (W m f a10) o1 (j1) (j2) (k) (p) o2 (L29a.h1 m f j1 j2 k p a9 a10)) (And.intro h2 (And.intro h2 (And.intro (r53 (m) (W m f a10) o1 (j1) (j2) (k) (p) o3 o4 (L29a.h1 m f j1 j2 k p a9 a10)) (And.intro h2 (And.intro h3 (L29a.nx m f j1 j2 k p (k_ := k_) (z_ := (a9, a10)) (h_ := [AObj.var (AV.agg [AV.int IntKind.i64 j1, AV.int IntKind.i64 j2]), AObj.var (AV.agg [AV.sl 2 m fun (i : Nat) => AV.agg [AV.int IntKind.i64 (W m f a10 i).lo, AV.int IntKind.i64 (W m f a10 i).hi], AV.int IntKind.i64 j1, AV.int IntKind.i64 j2, AV.sl 2 k fun (i : Nat) => AV.agg [AV.int IntKind.i64 (p i).lo, AV.int IntKind.i64 (p i).hi]])]) ((a10, IntKind.i64.wrap (a10 + 1))) (And.intro o5 o6) o7 (by first | (simp only [L29a.N, h1, h2, h3, cond_true, cond_false]; done) | (try unfold L29a.N; try simp only [h1, cond_true, cond_false]; try simp only [h2, cond_true, cond_false]; try simp only [h3, cond_true, cond_false]; try rfl; done)) (PopOk.pop rfl (by simp [L29a.T, L29a.X, L29a.H, L29a.XH])))))))))))⟩
      | false =>
        try have := IntWalk.i64_in (a10 + 1) (by omega)
        have o5 : (0 : Int) ≤ IntKind.i64.wrap (a10 + (1 : Int)) := by first | assumption | omega | (simp_all; done)
        have o6 : IntKind.i64.wrap (a10 + (1 : Int)) ≤ (101 : Int) ∨ IntKind.i64.wrap (a10 + (1 : Int)) ≤ (0 : Int) := by first | assumption | omega | (simp_all; done)
        have o7 : ((101 : Int) - IntKind.i64.wrap (a10 + (1 : Int))).toNat < ((101 : Int) - a10).toNat := by first | assumption | omega | (simp_all; done)
        exact ⟨[.b true, .ret (AV.agg [AV.sl 2 m fun (i : Nat) => AV.agg [AV.int IntKind.i64 (W m f a10 i).lo, AV.int IntKind.i64 (W m f a10 i).hi], AV.int IntKind.i64 j1, AV.int IntKind.i64 j2, AV.sl 2 k fun (i : Nat) => AV.agg [AV.int IntKind.i64 (p i).lo, AV.int IntKind.i64 (p i).hi]]) (L29a.h0 m f j1 j2 k p a9 a10), .ret (AV.int IntKind.i64 (r15.v m (W m f a10) j1 j2 k p)) (L29a.h1 m f j1 j2 k p a9 a10), .b true, .b true, .ret (AV.bool (r53.v m (W m f a10) j1 j2 k p)) (L29a.h1 m f j1 j2 k p a9 a10), .b true, .b false], kmp (by kernel_rfl) (And.intro h1 (And.intro (c52w (m) (f) o0 (j1) (j2) (k) (p) (a10) (L29a.h0 m f j1 j2 k p a9 a10)) (And.intro (r15 (m) (W m f a10) o1 (j1) (j2) (k) (p) o2 (L29a.h1 m f j1 j2 k p a9 a10)) (And.intro h2 (And.intro h2 (And.intro (r53 (m) (W m f a10) o1 (j1) (j2) (k) (p) o3 o4 (L29a.h1 m f j1 j2 k p a9 a10)) (And.intro h2 (And.intro h3 (L29a.nx m f j1 j2 k p (k_ := k_) (z_ := (a9, a10)) (h_ := [AObj.var (AV.agg [AV.int IntKind.i64 j1, AV.int IntKind.i64 j2]), AObj.var (AV.agg [AV.sl 2 m fun (i : Nat) => AV.agg [AV.int IntKind.i64 (W m f a10 i).lo, AV.int IntKind.i64 (W m f a10 i).hi], AV.int IntKind.i64 j1, AV.int IntKind.i64 j2, AV.sl 2 k fun (i : Nat) => AV.agg [AV.int IntKind.i64 (p i).lo, AV.int IntKind.i64 (p i).hi]])]) ((a9, IntKind.i64.wrap (a10 + 1))) (And.intro o5 o6) o7 (by first | (simp only [L29a.N, h1, h2, h3, cond_true, cond_false]; done) | (try unfold L29a.N; try simp only [h1, cond_true, cond_false]; try simp only [h2, cond_true, cond_false]; try simp only [h3, cond_true, cond_false]; try rfl; done)) (PopOk.pop rfl (by simp [L29a.T, L29a.X, L29a.H, L29a.XH])))))))))))⟩
    | false =>
      have h2p := ne_of_beq_false h2
      try have := IntWalk.i64_in (a10 + 1) (by omega)
      have o5 : (0 : Int) ≤ IntKind.i64.wrap (a10 + (1 : Int)) := by first | assumption | omega | (simp_all; done)
      have o6 : IntKind.i64.wrap (a10 + (1 : Int)) ≤ (101 : Int) ∨ IntKind.i64.wrap (a10 + (1 : Int)) ≤ (0 : Int) := by first | assumption | omega | (simp_all; done)
      have o7 : ((101 : Int) - IntKind.i64.wrap (a10 + (1 : Int))).toNat < ((101 : Int) - a10).toNat := by first | assumption | omega | (simp_all; done)
      exact ⟨[.b true, .ret (AV.agg [AV.sl 2 m fun (i : Nat) => AV.agg [AV.int IntKind.i64 (W m f a10 i).lo, AV.int IntKind.i64 (W m f a10 i).hi], AV.int IntKind.i64 j1, AV.int IntKind.i64 j2, AV.sl 2 k fun (i : Nat) => AV.agg [AV.int IntKind.i64 (p i).lo, AV.int IntKind.i64 (p i).hi]]) (L29a.h0 m f j1 j2 k p a9 a10), .ret (AV.int IntKind.i64 (r15.v m (W m f a10) j1 j2 k p)) (L29a.h1 m f j1 j2 k p a9 a10), .b false, .b false, .b false, .b false], kmp (by kernel_rfl) (And.intro h1 (And.intro (c52w (m) (f) o0 (j1) (j2) (k) (p) (a10) (L29a.h0 m f j1 j2 k p a9 a10)) (And.intro (r15 (m) (W m f a10) o1 (j1) (j2) (k) (p) o2 (L29a.h1 m f j1 j2 k p a9 a10)) (And.intro h2 (And.intro h2 (And.intro h2 (And.intro (rfl : false = false) (L29a.nx m f j1 j2 k p (k_ := k_) (z_ := (a9, a10)) (h_ := [AObj.var (AV.agg [AV.int IntKind.i64 j1, AV.int IntKind.i64 j2]), AObj.var (AV.agg [AV.sl 2 m fun (i : Nat) => AV.agg [AV.int IntKind.i64 (W m f a10 i).lo, AV.int IntKind.i64 (W m f a10 i).hi], AV.int IntKind.i64 j1, AV.int IntKind.i64 j2, AV.sl 2 k fun (i : Nat) => AV.agg [AV.int IntKind.i64 (p i).lo, AV.int IntKind.i64 (p i).hi]])]) ((a9, IntKind.i64.wrap (a10 + 1))) (And.intro o5 o6) o7 (by first | (simp only [L29a.N, h1, h2, cond_true, cond_false]; done) | (try unfold L29a.N; try simp only [h1, cond_true, cond_false]; try simp only [h2, cond_true, cond_false]; try rfl; done)) (PopOk.pop rfl (by simp [L29a.T, L29a.X, L29a.H, L29a.XH]))))))))))⟩
  | false =>
    have h1p := of_decide_eq_false h1
    exact ⟨[.b false], kmp (by kernel_rfl) (And.intro h1 (L29a.en m f j1 j2 k p (k_ := k_) (z_ := (a9, a10)) (.e0 (a9) : L29a.O) (by first | (simp only [L29a.N, h1, cond_true, cond_false]; done) | (try unfold L29a.N; try simp only [h1, cond_true, cond_false]; try rfl; done)) PopOk.same))⟩
theorem L29a.e0 (m : Nat) (f : Nat → Int) (hm : m ≤ 512) (j1 : Int) (j2 : Int) (k : Nat) (p : Nat → PD) (hk : k ≤ 30) (k0_1 : (r15.v m (W m f 0) j1 j2 k p == 0) = true) (p0_1 : r15.v m (W m f 0) j1 j2 k p = 0) (a9 : Int) (a10 : Int) (hinv : L29a.inv m f j1 j2 k p a9 a10) (a0 : Int) (hN : L29a.run m f j1 j2 k p a9 a10 = (.e0 a0 : L29a.O)) : LoopTo Try.prog (loopN Try.f29 0) (L29a.T m f j1 j2 k p a9 a10) (L29a.H m f j1 j2 k p a9 a10) (Exit.exit 0) (L29a.X m f j1 j2 k p (.e0 a0 : L29a.O)) (L29a.XH m f j1 j2 k p (.e0 a0 : L29a.O)) := by
  have h_ := L29a.spec m f hm j1 j2 k p hk k0_1 p0_1 (((100 + 1 - a10).toNat) + 1) (a9, a10) hinv (Nat.lt_succ_self _)
  unfold L29a.run at hN
  simp only [hN] at h_
  exact h_

noncomputable def r29.v0 (m : Nat) (f : Nat → Int) (j1 : Int) (j2 : Int) (k : Nat) (p : Nat → PD) : Int := (bif r15.v m (W m f 0) j1 j2 k p == 0 then (match L29a.run m f j1 j2 k p (-1) 0 with | .e0 h2d0 => (bif decide (h2d0 < 0) then 0 else h2d0) ) else 0)
noncomputable def r29.v1 (m : Nat) (f : Nat → Int) (j1 : Int) (j2 : Int) (k : Nat) (p : Nat → PD) : Int := (bif r15.v m (W m f 0) j1 j2 k p == 0 then (match L29a.run m f j1 j2 k p (-1) 0 with | .e0 h2d0 => (bif decide (h2d0 < 0) then 9 else 0) ) else r15.v m (W m f 0) j1 j2 k p)
noncomputable abbrev r29.h0 (m : Nat) (f : Nat → Int) (j1 : Int) (j2 : Int) (k : Nat) (p : Nat → PD) : AHeap := ([AObj.var (AV.agg [AV.int IntKind.i64 j1, AV.int IntKind.i64 j2])])
theorem r29 (m : Nat) (f : Nat → Int) (hm : m ≤ 512) (j1 : Int) (j2 : Int) (k : Nat) (p : Nat → PD) (hk : k ≤ 30) (h : AHeap) : Ret Try.prog 29 ([ivs' m f, AV.agg [AV.int IntKind.i64 j1, AV.int IntKind.i64 j2], prs k p]) h (AV.tup [(AV.int IntKind.i64 (r29.v0 m f j1 j2 k p)), (AV.int IntKind.i64 (r29.v1 m f j1 j2 k p))]) h := by
  have o0 : m ≤ (512 : Nat) := by first | assumption | omega | (simp_all; done)
  have o1 : m ≤ (9223372036854775807 : Nat) := by first | assumption | omega | (simp_all; done)
  have o2 : k ≤ (9223372036854775807 : Nat) := by first | assumption | omega | (simp_all; done)
  cases h1 : r15.v m (W m f 0) j1 j2 k p == 0 with
  | true =>
    have h1p := eq_of_beq h1
    have o3 : k ≤ (30 : Nat) := by first | assumption | omega | (simp_all; done)
    have o4 : (r15.v m (W m f (0 : Int)) j1 j2 k p == (0 : Int)) = true := by first | assumption | omega | (simp_all; done)
    have o5 : r15.v m (W m f (0 : Int)) j1 j2 k p = (0 : Int) := by first | assumption | omega | (simp_all; done)
    cases h2 : L29a.run m f j1 j2 k p (-1) 0 with
    | e0 h2d0 =>
      cases h3 : decide (h2d0 < 0) with
      | true =>
        have h3p := of_decide_eq_true h3
        exact Ret.of_run1 mix [(AV.int IntKind.i64 (r29.v0 m f j1 j2 k p)), (AV.int IntKind.i64 (r29.v1 m f j1 j2 k p))] Try.func29 rfl [.ret (AV.agg [AV.sl 2 m fun (i : Nat) => AV.agg [AV.int IntKind.i64 (W m f 0 i).lo, AV.int IntKind.i64 (W m f 0 i).hi], AV.int IntKind.i64 j1, AV.int IntKind.i64 j2, AV.sl 2 k fun (i : Nat) => AV.agg [AV.int IntKind.i64 (p i).lo, AV.int IntKind.i64 (p i).hi]]) (r29.h0 m f j1 j2 k p), .ret (AV.int IntKind.i64 (r15.v m (W m f 0) j1 j2 k p)) (r29.h0 m f j1 j2 k p), .b false, .loop (others 40 [0, 2, 4, 9, 10]) (Exit.exit 0) (L29a.X m f j1 j2 k p (L29a.O.e0 h2d0)) (L29a.XH m f j1 j2 k p (L29a.O.e0 h2d0)), .b true] (by simp) (by simp) (kmp (by kernel_rfl) (And.intro (c52w (m) (f) o0 (j1) (j2) (k) (p) (0) (r29.h0 m f j1 j2 k p)) (And.intro (r15 (m) (W m f 0) o1 (j1) (j2) (k) (p) o2 (r29.h0 m f j1 j2 k p)) (And.intro (show (bnot (r15.v m (W m f 0) j1 j2 k p == 0)) = false by rw [h1]; try rfl) (And.intro (L29a.e0 (m) (f) o0 (j1) (j2) (k) (p) o3 o4 o5 (-1) (0) (And.intro (show (0 : Int) ≤ (0 : Int) by first | decide | exact Int.NonNeg.mk _) (show (0 : Int) ≤ (101 : Int) ∨ (0 : Int) ≤ (0 : Int) by first | decide | exact Int.NonNeg.mk _)) h2d0 h2) (And.intro h3 (And.intro (show (AV.int IntKind.i64 0) = ((AV.int IntKind.i64 (r29.v0 m f j1 j2 k p))) by first | (simp only [r29.v0, r29.v1, h1, h3, h2, cond_true, cond_false]; done) | (try unfold r29.v0; try unfold r29.v1; try simp only [h1, cond_true, cond_false]; try simp only [h3, cond_true, cond_false]; try simp only [h2, cond_true, cond_false]; try rfl; done) | rfl) (And.intro (show (AV.int IntKind.i64 9) = ((AV.int IntKind.i64 (r29.v1 m f j1 j2 k p))) by first | (simp only [r29.v0, r29.v1, h1, h3, h2, cond_true, cond_false]; done) | (try unfold r29.v0; try unfold r29.v1; try simp only [h1, cond_true, cond_false]; try simp only [h3, cond_true, cond_false]; try simp only [h2, cond_true, cond_false]; try rfl; done) | rfl) trivial)))))))) h
      | false =>
        have h3p := of_decide_eq_false h3
        exact Ret.of_run1 mix [(AV.int IntKind.i64 (r29.v0 m f j1 j2 k p)), (AV.int IntKind.i64 (r29.v1 m f j1 j2 k p))] Try.func29 rfl [.ret (AV.agg [AV.sl 2 m fun (i : Nat) => AV.agg [AV.int IntKind.i64 (W m f 0 i).lo, AV.int IntKind.i64 (W m f 0 i).hi], AV.int IntKind.i64 j1, AV.int IntKind.i64 j2, AV.sl 2 k fun (i : Nat) => AV.agg [AV.int IntKind.i64 (p i).lo, AV.int IntKind.i64 (p i).hi]]) (r29.h0 m f j1 j2 k p), .ret (AV.int IntKind.i64 (r15.v m (W m f 0) j1 j2 k p)) (r29.h0 m f j1 j2 k p), .b false, .loop (others 40 [0, 2, 4, 9, 10]) (Exit.exit 0) (L29a.X m f j1 j2 k p (L29a.O.e0 h2d0)) (L29a.XH m f j1 j2 k p (L29a.O.e0 h2d0)), .b false] (by simp) (by simp) (kmp (by kernel_rfl) (And.intro (c52w (m) (f) o0 (j1) (j2) (k) (p) (0) (r29.h0 m f j1 j2 k p)) (And.intro (r15 (m) (W m f 0) o1 (j1) (j2) (k) (p) o2 (r29.h0 m f j1 j2 k p)) (And.intro (show (bnot (r15.v m (W m f 0) j1 j2 k p == 0)) = false by rw [h1]; try rfl) (And.intro (L29a.e0 (m) (f) o0 (j1) (j2) (k) (p) o3 o4 o5 (-1) (0) (And.intro (show (0 : Int) ≤ (0 : Int) by first | decide | exact Int.NonNeg.mk _) (show (0 : Int) ≤ (101 : Int) ∨ (0 : Int) ≤ (0 : Int) by first | decide | exact Int.NonNeg.mk _)) h2d0 h2) (And.intro h3 (And.intro (show (AV.int IntKind.i64 h2d0) = ((AV.int IntKind.i64 (r29.v0 m f j1 j2 k p))) by first | (simp only [r29.v0, r29.v1, h1, h3, h2, cond_true, cond_false]; done) | (try unfold r29.v0; try unfold r29.v1; try simp only [h1, cond_true, cond_false]; try simp only [h3, cond_true, cond_false]; try simp only [h2, cond_true, cond_false]; try rfl; done) | rfl) (And.intro (show (AV.int IntKind.i64 0) = ((AV.int IntKind.i64 (r29.v1 m f j1 j2 k p))) by first | (simp only [r29.v0, r29.v1, h1, h3, h2, cond_true, cond_false]; done) | (try unfold r29.v0; try unfold r29.v1; try simp only [h1, cond_true, cond_false]; try simp only [h3, cond_true, cond_false]; try simp only [h2, cond_true, cond_false]; try rfl; done) | rfl) trivial)))))))) h
  | false =>
    have h1p := ne_of_beq_false h1
    exact Ret.of_run1 mix [(AV.int IntKind.i64 (r29.v0 m f j1 j2 k p)), (AV.int IntKind.i64 (r29.v1 m f j1 j2 k p))] Try.func29 rfl [.ret (AV.agg [AV.sl 2 m fun (i : Nat) => AV.agg [AV.int IntKind.i64 (W m f 0 i).lo, AV.int IntKind.i64 (W m f 0 i).hi], AV.int IntKind.i64 j1, AV.int IntKind.i64 j2, AV.sl 2 k fun (i : Nat) => AV.agg [AV.int IntKind.i64 (p i).lo, AV.int IntKind.i64 (p i).hi]]) (r29.h0 m f j1 j2 k p), .ret (AV.int IntKind.i64 (r15.v m (W m f 0) j1 j2 k p)) (r29.h0 m f j1 j2 k p), .b true] (by simp) (by simp) (kmp (by kernel_rfl) (And.intro (c52w (m) (f) o0 (j1) (j2) (k) (p) (0) (r29.h0 m f j1 j2 k p)) (And.intro (r15 (m) (W m f 0) o1 (j1) (j2) (k) (p) o2 (r29.h0 m f j1 j2 k p)) (And.intro (show (bnot (r15.v m (W m f 0) j1 j2 k p == 0)) = true by rw [h1]; try rfl) (And.intro (show (AV.int IntKind.i64 0) = ((AV.int IntKind.i64 (r29.v0 m f j1 j2 k p))) by first | (simp only [r29.v0, r29.v1, h1, cond_true, cond_false]; done) | (try unfold r29.v0; try unfold r29.v1; try simp only [h1, cond_true, cond_false]; try rfl; done) | rfl) (And.intro (show (AV.int IntKind.i64 (r15.v m (W m f 0) j1 j2 k p)) = ((AV.int IntKind.i64 (r29.v1 m f j1 j2 k p))) by first | (simp only [r29.v0, r29.v1, h1, cond_true, cond_false]; done) | (try unfold r29.v0; try unfold r29.v1; try simp only [h1, cond_true, cond_false]; try rfl; done) | rfl) trivial)))))) h

inductive L30a.O where
  | e0 (a0 : Nat) (a1 : List Int)
noncomputable def L30a.T (n : Nat) (g : Nat → PD) (j1 : Int) (j2 : Int) (k : Nat) (p : Nat → PD) (m : Nat) (f : Nat → Int) (av5 : Nat) (al5 : List Int) (a6 : Int) : List AV := mkT 58 [(1, AV.sl 1 m fun (i : Nat) => AV.int IntKind.i64 (f i)), (2, AV.ptr 0 1 4 0 0), (5, AV.ms 1 av5 1 0 al5.length), (6, AV.int IntKind.i64 a6)]
noncomputable def L30a.H (n : Nat) (g : Nat → PD) (j1 : Int) (j2 : Int) (k : Nat) (p : Nat → PD) (m : Nat) (f : Nat → Int) (av5 : Nat) (al5 : List Int) (a6 : Int) : AHeap := [AObj.var (AV.agg [AV.sl 2 n fun (i : Nat) => AV.agg [AV.int IntKind.i64 (g i).lo, AV.int IntKind.i64 (g i).hi], AV.int IntKind.i64 j1, AV.int IntKind.i64 j2, AV.sl 2 k fun (i : Nat) => AV.agg [AV.int IntKind.i64 (p i).lo, AV.int IntKind.i64 (p i).hi]]), AObj.row 1 av5 (Col.ints IntKind.i64 al5)]
def L30a.inv (n : Nat) (g : Nat → PD) (j1 : Int) (j2 : Int) (k : Nat) (p : Nat → PD) (m : Nat) (f : Nat → Int) (av5 : Nat) (al5 : List Int) (a6 : Int) : Prop := 0 ≤ a6 ∧ (a6 ≤ (↑n : Int) ∨ a6 ≤ 0) ∧ (↑al5.length : Int) ≤ a6 - 0
noncomputable def L30a.mu (n : Nat) (g : Nat → PD) (j1 : Int) (j2 : Int) (k : Nat) (p : Nat → PD) (m : Nat) (f : Nat → Int) (av5 : Nat) (al5 : List Int) (a6 : Int) : Nat := ((↑n : Int) - a6).toNat
noncomputable def L30a.E : L30a.O → Exit
  | .e0 a0 a1 => Exit.exit 0
noncomputable def L30a.X (n : Nat) (g : Nat → PD) (j1 : Int) (j2 : Int) (k : Nat) (p : Nat → PD) (m : Nat) (f : Nat → Int) : L30a.O → List AV
  | .e0 a0 a1 => mkT 58 [(5, (AV.ms 1 a0 1 0 (List.length a1)))]
noncomputable def L30a.XH (n : Nat) (g : Nat → PD) (j1 : Int) (j2 : Int) (k : Nat) (p : Nat → PD) (m : Nat) (f : Nat → Int) : L30a.O → AHeap
  | .e0 a0 a1 => ((AObj.var (AV.agg [AV.sl 2 n fun (i : Nat) => AV.agg [AV.int IntKind.i64 (g i).lo, AV.int IntKind.i64 (g i).hi], AV.int IntKind.i64 j1, AV.int IntKind.i64 j2, AV.sl 2 k fun (i : Nat) => AV.agg [AV.int IntKind.i64 (p i).lo, AV.int IntKind.i64 (p i).hi]])) :: ((AObj.row 1 a0 (Col.ints IntKind.i64 a1)) :: ([])))
noncomputable def L30a.N (n : Nat) (g : Nat → PD) (m : Nat) (f : Nat → Int) : Nat → Nat → (List Int) → Int → L30a.O
  | 0, _, _, _ => .e0 default default
  | k_ + 1, av5, al5, a6 => (bif decide (a6 < (↑n : Int)) then (bif decide (a6 < (↑m : Int)) then (bif decide (f a6.toNat > 0) then (bif decide (IntKind.i64.wrap (IntKind.i64.wrap ((g a6.toNat).hi - (g a6.toNat).lo) + 1) > 0) then (L30a.N n g m f k_ (av5 + 1) (al5 ++ [IntKind.i64.wrap ((g a6.toNat).lo + (f a6.toNat).tmod (IntKind.i64.wrap (IntKind.i64.wrap ((g a6.toNat).hi - (g a6.toNat).lo) + 1)))]) (IntKind.i64.wrap (a6 + 1))) else (L30a.N n g m f k_ (av5 + 1) (al5 ++ [IntKind.i64.wrap ((g a6.toNat).lo + 0)]) (IntKind.i64.wrap (a6 + 1)))) else (L30a.N n g m f k_ (av5 + 1) (al5 ++ [IntKind.i64.wrap ((g a6.toNat).lo + 0)]) (IntKind.i64.wrap (a6 + 1)))) else (L30a.N n g m f k_ (av5 + 1) (al5 ++ [IntKind.i64.wrap ((g a6.toNat).lo + 0)]) (IntKind.i64.wrap (a6 + 1)))) else (.e0 (av5) (al5)))
noncomputable def L30a.run (n : Nat) (g : Nat → PD) (m : Nat) (f : Nat → Int) (av5 : Nat) (al5 : List Int) (a6 : Int) : L30a.O := L30a.N n g m f ((((↑n : Int) - a6).toNat) + 1) av5 al5 a6
def L30a.Next (n : Nat) (g : Nat → PD) (j1 : Int) (j2 : Int) (k : Nat) (p : Nat → PD) (m : Nat) (f : Nat → Int) (k_ : Nat) (z_ : Nat × (List Int) × Int) (T_ : List AV) (h_ : AHeap) : Prop := LNextP (fun (z_ : Nat × (List Int) × Int) => L30a.T n g j1 j2 k p m f z_.1 z_.2.1 z_.2.2) (fun (z_ : Nat × (List Int) × Int) => L30a.H n g j1 j2 k p m f z_.1 z_.2.1 z_.2.2) (fun (z_ : Nat × (List Int) × Int) => L30a.inv n g j1 j2 k p m f z_.1 z_.2.1 z_.2.2) (fun (z_ : Nat × (List Int) × Int) => L30a.mu n g j1 j2 k p m f z_.1 z_.2.1 z_.2.2) (fun (k_ : Nat) (z_ : Nat × (List Int) × Int) => L30a.N n g m f k_ z_.1 z_.2.1 z_.2.2) k_ z_ T_ h_
def L30a.End (n : Nat) (g : Nat → PD) (j1 : Int) (j2 : Int) (k : Nat) (p : Nat → PD) (m : Nat) (f : Nat → Int) (k_ : Nat) (z_ : Nat × (List Int) × Int) (e_ : Exit) (T_ : List AV) (h_ : AHeap) : Prop := LEndP (fun (z_ : Nat × (List Int) × Int) => L30a.H n g j1 j2 k p m f z_.1 z_.2.1 z_.2.2) (fun (k_ : Nat) (z_ : Nat × (List Int) × Int) => L30a.N n g m f k_ z_.1 z_.2.1 z_.2.2) L30a.E (L30a.X n g j1 j2 k p m f) (L30a.XH n g j1 j2 k p m f) k_ z_ e_ T_ h_
theorem L30a.nx (n : Nat) (g : Nat → PD) (j1 : Int) (j2 : Int) (k : Nat) (p : Nat → PD) (m : Nat) (f : Nat → Int) {k_ : Nat} {z_ : Nat × (List Int) × Int} {h_ : AHeap} (s_ : Nat × (List Int) × Int) (h1 : L30a.inv n g j1 j2 k p m f s_.1 s_.2.1 s_.2.2) (h2 : L30a.mu n g j1 j2 k p m f s_.1 s_.2.1 s_.2.2 < L30a.mu n g j1 j2 k p m f z_.1 z_.2.1 z_.2.2) (h3 : L30a.N n g m f k_ s_.1 s_.2.1 s_.2.2 = L30a.N n g m f (k_ + 1) z_.1 z_.2.1 z_.2.2) (h4 : PopOk (L30a.H n g j1 j2 k p m f z_.1 z_.2.1 z_.2.2) h_ (L30a.T n g j1 j2 k p m f s_.1 s_.2.1 s_.2.2) (L30a.H n g j1 j2 k p m f s_.1 s_.2.1 s_.2.2)) : LNextP (fun (z_ : Nat × (List Int) × Int) => L30a.T n g j1 j2 k p m f z_.1 z_.2.1 z_.2.2) (fun (z_ : Nat × (List Int) × Int) => L30a.H n g j1 j2 k p m f z_.1 z_.2.1 z_.2.2) (fun (z_ : Nat × (List Int) × Int) => L30a.inv n g j1 j2 k p m f z_.1 z_.2.1 z_.2.2) (fun (z_ : Nat × (List Int) × Int) => L30a.mu n g j1 j2 k p m f z_.1 z_.2.1 z_.2.2) (fun (k_ : Nat) (z_ : Nat × (List Int) × Int) => L30a.N n g m f k_ z_.1 z_.2.1 z_.2.2) k_ z_ (L30a.T n g j1 j2 k p m f s_.1 s_.2.1 s_.2.2) h_ := LNextP.mk (Tm := (fun (z_ : Nat × (List Int) × Int) => L30a.T n g j1 j2 k p m f z_.1 z_.2.1 z_.2.2)) (Hp := (fun (z_ : Nat × (List Int) × Int) => L30a.H n g j1 j2 k p m f z_.1 z_.2.1 z_.2.2)) (inv := (fun (z_ : Nat × (List Int) × Int) => L30a.inv n g j1 j2 k p m f z_.1 z_.2.1 z_.2.2)) (mu := (fun (z_ : Nat × (List Int) × Int) => L30a.mu n g j1 j2 k p m f z_.1 z_.2.1 z_.2.2)) (l := (fun (k_ : Nat) (z_ : Nat × (List Int) × Int) => L30a.N n g m f k_ z_.1 z_.2.1 z_.2.2)) s_ h1 h2 h3 h4
theorem L30a.en (n : Nat) (g : Nat → PD) (j1 : Int) (j2 : Int) (k : Nat) (p : Nat → PD) (m : Nat) (f : Nat → Int) {k_ : Nat} {z_ : Nat × (List Int) × Int} {h_ : AHeap} (o_ : L30a.O) (h3 : L30a.N n g m f (k_ + 1) z_.1 z_.2.1 z_.2.2 = o_) (h4 : PopOk (L30a.H n g j1 j2 k p m f z_.1 z_.2.1 z_.2.2) h_ (L30a.X n g j1 j2 k p m f o_) (L30a.XH n g j1 j2 k p m f o_)) : LEndP (fun (z_ : Nat × (List Int) × Int) => L30a.H n g j1 j2 k p m f z_.1 z_.2.1 z_.2.2) (fun (k_ : Nat) (z_ : Nat × (List Int) × Int) => L30a.N n g m f k_ z_.1 z_.2.1 z_.2.2) L30a.E (L30a.X n g j1 j2 k p m f) (L30a.XH n g j1 j2 k p m f) k_ z_ (L30a.E o_) (L30a.X n g j1 j2 k p m f o_) h_ := LEndP.mk (Hp := (fun (z_ : Nat × (List Int) × Int) => L30a.H n g j1 j2 k p m f z_.1 z_.2.1 z_.2.2)) (l := (fun (k_ : Nat) (z_ : Nat × (List Int) × Int) => L30a.N n g m f k_ z_.1 z_.2.1 z_.2.2)) (oE := L30a.E) (oT := L30a.X n g j1 j2 k p m f) (oH := L30a.XH n g j1 j2 k p m f) o_ h3 h4
theorem L30a.spec (n : Nat) (g : Nat → PD) (hn : n ≤ 512) (j1 : Int) (j2 : Int) (k : Nat) (p : Nat → PD) (m : Nat) (f : Nat → Int) (hm : m ≤ 9223372036854775807) (k_ : Nat) (z_ : Nat × (List Int) × Int) (hi_ : L30a.inv n g j1 j2 k p m f z_.1 z_.2.1 z_.2.2) (hm_ : L30a.mu n g j1 j2 k p m f z_.1 z_.2.1 z_.2.2 < k_) : LoopTo Try.prog (loopN Try.f30 0) (L30a.T n g j1 j2 k p m f z_.1 z_.2.1 z_.2.2) (L30a.H n g j1 j2 k p m f z_.1 z_.2.1 z_.2.2) (L30a.E (L30a.N n g m f k_ z_.1 z_.2.1 z_.2.2)) (L30a.X n g j1 j2 k p m f (L30a.N n g m f k_ z_.1 z_.2.1 z_.2.2)) (L30a.XH n g j1 j2 k p m f (L30a.N n g m f k_ z_.1 z_.2.1 z_.2.2)) := by
  refine LoopTo.fuelP mix (fun (z_ : Nat × (List Int) × Int) => L30a.T n g j1 j2 k p m f z_.1 z_.2.1 z_.2.2) (fun (z_ : Nat × (List Int) × Int) => L30a.H n g j1 j2 k p m f z_.1 z_.2.1 z_.2.2) (fun (z_ : Nat × (List Int) × Int) => L30a.inv n g j1 j2 k p m f z_.1 z_.2.1 z_.2.2) (fun (z_ : Nat × (List Int) × Int) => L30a.mu n g j1 j2 k p m f z_.1 z_.2.1 z_.2.2) (fun (k_ : Nat) (z_ : Nat × (List Int) × Int) => L30a.N n g m f k_ z_.1 z_.2.1 z_.2.2) L30a.E (L30a.X n g j1 j2 k p m f) (L30a.XH n g j1 j2 k p m f) (others 58 [1, 2, 5, 6]) (others 58 [4]) (others 58 [5]) ?_ k_ z_ hi_ hm_
  clear hm_ hi_ z_ k_
  intro k_ z_ hinv hmu
  obtain ⟨av5, al5, a6⟩ := z_
  have hinv : 0 ≤ a6 ∧ (a6 ≤ (↑n : Int) ∨ a6 ≤ 0) ∧ (↑al5.length : Int) ≤ a6 - 0 := hinv
  have hmu : (((↑n : Int) - a6).toNat) < k_ + 1 := hmu
  cases h1 : decide (a6 < (↑n : Int)) with
  | true =>
    have h1p := of_decide_eq_true h1
    have o0 : (0 : Int) ≤ a6 := by first | assumption | omega | (simp_all; done)
    have o1 : a6 < (↑n : Int) := by first | assumption | omega | (simp_all; done)
    cases h2 : decide (a6 < (↑m : Int)) with
    | true =>
      have h2p := of_decide_eq_true h2
      have o2 : a6 < (↑m : Int) := by first | assumption | omega | (simp_all; done)
      cases h3 : decide (f a6.toNat > 0) with
      | true =>
        have h3p := of_decide_eq_true h3
        cases h4 : decide (IntKind.i64.wrap (IntKind.i64.wrap ((g a6.toNat).hi - (g a6.toNat).lo) + 1) > 0) with
        | true =>
          have h4p := of_decide_eq_true h4
          try have := IntWalk.i64_in ((g a6.toNat).hi - (g a6.toNat).lo) (by omega)
          try have := IntWalk.i64_in (IntKind.i64.wrap ((g a6.toNat).hi - (g a6.toNat).lo) + 1) (by omega)
          have o3 : IntKind.i64.wrap (IntKind.i64.wrap ((g a6.toNat).hi - (g a6.toNat).lo) + (1 : Int)) = (0 : Int) → False := by first | assumption | omega | (simp_all; done)
          have o4 : (al5.length + (1 : Nat)) * (8 : Nat) ≤ (140737488355328 : Nat) := by first | assumption | omega | (simp only [List.length_append, List.length_cons, List.length_nil, List.length_map]; omega) | (simp_all; done)
          have o5 : al5.length = (Col.ints IntKind.i64 al5).len := by first | assumption | omega | (simp only [List.length_append, List.length_cons, List.length_nil, List.length_map]; omega) | rfl | (exact Nat.le_refl _) | (simp [Col.len]; done) | (simp_all; done)
          try have := IntWalk.i64_in (a6 + 1) (by omega)
          have o6 : (0 : Int) ≤ IntKind.i64.wrap (a6 + (1 : Int)) := by first | assumption | omega | (simp_all; done)
          have o7 : IntKind.i64.wrap (a6 + (1 : Int)) ≤ (↑n : Int) ∨ IntKind.i64.wrap (a6 + (1 : Int)) ≤ (0 : Int) := by first | assumption | omega | (simp_all; done)
          try have := IntWalk.i64_in ((g a6.toNat).lo + (f a6.toNat).tmod (IntKind.i64.wrap (IntKind.i64.wrap ((g a6.toNat).hi - (g a6.toNat).lo) + 1))) (by omega)
          have o8 : (↑(al5 ++ [IntKind.i64.wrap ((g a6.toNat).lo + (f a6.toNat).tmod (IntKind.i64.wrap (IntKind.i64.wrap ((g a6.toNat).hi - (g a6.toNat).lo) + (1 : Int))))]).length : Int) ≤ IntKind.i64.wrap (a6 + (1 : Int)) - (0 : Int) := by first | assumption | omega | (simp only [List.length_append, List.length_cons, List.length_nil, List.length_map]; omega) | (simp_all; done)
          have o9 : ((↑n : Int) - IntKind.i64.wrap (a6 + (1 : Int))).toNat < ((↑n : Int) - a6).toNat := by first | assumption | omega | (simp_all; done)
          exact ⟨[.b true, .b true, .b true, .b true, .b true, .b true, .b true, .b true, .b true, .b true, .b true, .app .one false], kmp (by kernel_rfl) (And.intro h1 (And.intro (And.intro o0 o1) (And.intro h2 (And.intro h2 (And.intro h2 (And.intro (And.intro o0 o2) (And.intro h2 (And.intro h2 (And.intro h2 (And.intro h3 (And.intro h3 (And.intro h3 (And.intro h4 (And.intro (And.intro o0 o2) (And.intro o3 (And.intro (And.intro (show (1 : Nat) = (1 : Nat) by first | decide | exact Int.NonNeg.mk _) (And.intro (show AppMode.one.needs 1 fun (a : Nat) => (Col.ofList [AV.int IntKind.i64 (IntKind.i64.wrap ((g a6.toNat).lo + (f a6.toNat).tmod (IntKind.i64.wrap (IntKind.i64.wrap ((g a6.toNat).hi - (g a6.toNat).lo) + 1))))]).get a by first | exact ⟨rfl, rfl⟩ | simp [AppMode.needs]) (And.intro o4 (And.intro (rfl : av5 = av5) (And.intro (show (0 : Nat) = (0 : Nat) by first | decide | exact Int.NonNeg.mk _) o5))))) (L30a.nx n g j1 j2 k p m f (k_ := k_) (z_ := (av5, al5, a6)) (h_ := [AObj.var (AV.agg [AV.sl 2 n fun (i : Nat) => AV.agg [AV.int IntKind.i64 (g i).lo, AV.int IntKind.i64 (g i).hi], AV.int IntKind.i64 j1, AV.int IntKind.i64 j2, AV.sl 2 k fun (i : Nat) => AV.agg [AV.int IntKind.i64 (p i).lo, AV.int IntKind.i64 (p i).hi]]), AObj.row 1 (av5 + 1) (Col.ints IntKind.i64 (al5 ++ [IntKind.i64.wrap ((g a6.toNat).lo + (f a6.toNat).tmod (IntKind.i64.wrap (IntKind.i64.wrap ((g a6.toNat).hi - (g a6.toNat).lo) + 1)))])), AObj.var (AV.agg [AV.int IntKind.i64 (g a6.toNat).lo, AV.int IntKind.i64 (g a6.toNat).hi])]) ((av5 + 1, al5 ++ [IntKind.i64.wrap ((g a6.toNat).lo + (f a6.toNat).tmod (IntKind.i64.wrap (IntKind.i64.wrap ((g a6.toNat).hi - (g a6.toNat).lo) + 1)))], IntKind.i64.wrap (a6 + 1))) (And.intro o6 (And.intro o7 o8)) o9 (by first | (simp only [L30a.N, h1, h2, h3, h4, cond_true, cond_false]; done) | (try unfold L30a.N; try simp only [h1, cond_true, cond_false]; try simp only [h2, cond_true, cond_false]; try simp only [h3, cond_true, cond_false]; try simp only [h4, cond_true, cond_false]; try rfl; done)) (PopOk.popLow _ rfl rfl (by simp [L30a.T, L30a.X, L30a.H, L30a.XH]) (by simp [L30a.T, L30a.X, L30a.H, L30a.XH])))))))))))))))))))⟩
        | false =>
          have h4p := of_decide_eq_false h4
          have o4 : (al5.length + (1 : Nat)) * (8 : Nat) ≤ (140737488355328 : Nat) := by first | assumption | omega | (simp only [List.length_append, List.length_cons, List.length_nil, List.length_map]; omega) | (simp_all; done)
          have o5 : al5.length = (Col.ints IntKind.i64 al5).len := by first | assumption | omega | (simp only [List.length_append, List.length_cons, List.length_nil, List.length_map]; omega) | rfl | (exact Nat.le_refl _) | (simp [Col.len]; done) | (simp_all; done)
          try have := IntWalk.i64_in (a6 + 1) (by omega)
          have o6 : (0 : Int) ≤ IntKind.i64.wrap (a6 + (1 : Int)) := by first | assumption | omega | (simp_all; done)
          have o7 : IntKind.i64.wrap (a6 + (1 : Int)) ≤ (↑n : Int) ∨ IntKind.i64.wrap (a6 + (1 : Int)) ≤ (0 : Int) := by first | assumption | omega | (simp_all; done)
          try have := IntWalk.i64_in ((g a6.toNat).lo + 0) (by omega)
          have o10 : (↑(al5 ++ [IntKind.i64.wrap ((g a6.toNat).lo + (0 : Int))]).length : Int) ≤ IntKind.i64.wrap (a6 + (1 : Int)) - (0 : Int) := by first | assumption | omega | (simp only [List.length_append, List.length_cons, List.length_nil, List.length_map]; omega) | (simp_all; done)
          have o9 : ((↑n : Int) - IntKind.i64.wrap (a6 + (1 : Int))).toNat < ((↑n : Int) - a6).toNat := by first | assumption | omega | (simp_all; done)
          exact ⟨[.b true, .b true, .b true, .b true, .b true, .b true, .b true, .b true, .b true, .b true, .b false, .app .one false], kmp (by kernel_rfl) (And.intro h1 (And.intro (And.intro o0 o1) (And.intro h2 (And.intro h2 (And.intro h2 (And.intro (And.intro o0 o2) (And.intro h2 (And.intro h2 (And.intro h2 (And.intro h3 (And.intro h3 (And.intro h3 (And.intro h4 (And.intro (And.intro (show (1 : Nat) = (1 : Nat) by first | decide | exact Int.NonNeg.mk _) (And.intro (show AppMode.one.needs 1 fun (a : Nat) => (Col.ofList [AV.int IntKind.i64 (IntKind.i64.wrap ((g a6.toNat).lo + 0))]).get a by first | exact ⟨rfl, rfl⟩ | simp [AppMode.needs]) (And.intro o4 (And.intro (rfl : av5 = av5) (And.intro (show (0 : Nat) = (0 : Nat) by first | decide | exact Int.NonNeg.mk _) o5))))) (L30a.nx n g j1 j2 k p m f (k_ := k_) (z_ := (av5, al5, a6)) (h_ := [AObj.var (AV.agg [AV.sl 2 n fun (i : Nat) => AV.agg [AV.int IntKind.i64 (g i).lo, AV.int IntKind.i64 (g i).hi], AV.int IntKind.i64 j1, AV.int IntKind.i64 j2, AV.sl 2 k fun (i : Nat) => AV.agg [AV.int IntKind.i64 (p i).lo, AV.int IntKind.i64 (p i).hi]]), AObj.row 1 (av5 + 1) (Col.ints IntKind.i64 (al5 ++ [IntKind.i64.wrap ((g a6.toNat).lo + 0)])), AObj.var (AV.agg [AV.int IntKind.i64 (g a6.toNat).lo, AV.int IntKind.i64 (g a6.toNat).hi])]) ((av5 + 1, al5 ++ [IntKind.i64.wrap ((g a6.toNat).lo + 0)], IntKind.i64.wrap (a6 + 1))) (And.intro o6 (And.intro o7 o10)) o9 (by first | (simp only [L30a.N, h1, h2, h3, h4, cond_true, cond_false]; done) | (try unfold L30a.N; try simp only [h1, cond_true, cond_false]; try simp only [h2, cond_true, cond_false]; try simp only [h3, cond_true, cond_false]; try simp only [h4, cond_true, cond_false]; try rfl; done)) (PopOk.popLow _ rfl rfl (by simp [L30a.T, L30a.X, L30a.H, L30a.XH]) (by simp [L30a.T, L30a.X, L30a.H, L30a.XH])))))))))))))))))⟩
      | false =>
        have h3p := of_decide_eq_false h3
        have o4 : (al5.length + (1 : Nat)) * (8 : Nat) ≤ (140737488355328 : Nat) := by first | assumption | omega | (simp only [List.length_append, List.length_cons, List.length_nil, List.length_map]; omega) | (simp_all; done)
        have o5 : al5.length = (Col.ints IntKind.i64 al5).len := by first | assumption | omega | (simp only [List.length_append, List.length_cons, List.length_nil, List.length_map]; omega) | rfl | (exact Nat.le_refl _) | (simp [Col.len]; done) | (simp_all; done)
        try have := IntWalk.i64_in (a6 + 1) (by omega)
        have o6 : (0 : Int) ≤ IntKind.i64.wrap (a6 + (1 : Int)) := by first | assumption | omega | (simp_all; done)
        have o7 : IntKind.i64.wrap (a6 + (1 : Int)) ≤ (↑n : Int) ∨ IntKind.i64.wrap (a6 + (1 : Int)) ≤ (0 : Int) := by first | assumption | omega | (simp_all; done)
        try have := IntWalk.i64_in ((g a6.toNat).lo + 0) (by omega)
        have o10 : (↑(al5 ++ [IntKind.i64.wrap ((g a6.toNat).lo + (0 : Int))]).length : Int) ≤ IntKind.i64.wrap (a6 + (1 : Int)) - (0 : Int) := by first | assumption | omega | (simp only [List.length_append, List.length_cons, List.length_nil, List.length_map]; omega) | (simp_all; done)
        have o9 : ((↑n : Int) - IntKind.i64.wrap (a6 + (1 : Int))).toNat < ((↑n : Int) - a6).toNat := by first | assumption | omega | (simp_all; done)
        exact ⟨[.b true, .b true, .b true, .b true, .b true, .b true, .b true, .b false, .b false, .b false, .b false, .app .one false], kmp (by kernel_rfl) (And.intro h1 (And.intro (And.intro o0 o1) (And.intro h2 (And.intro h2 (And.intro h2 (And.intro (And.intro o0 o2) (And.intro h2 (And.intro h2 (And.intro h2 (And.intro h3 (And.intro h3 (And.intro h3 (And.intro (rfl : false = false) (And.intro (And.intro (show (1 : Nat) = (1 : Nat) by first | decide | exact Int.NonNeg.mk _) (And.intro (show AppMode.one.needs 1 fun (a : Nat) => (Col.ofList [AV.int IntKind.i64 (IntKind.i64.wrap ((g a6.toNat).lo + 0))]).get a by first | exact ⟨rfl, rfl⟩ | simp [AppMode.needs]) (And.intro o4 (And.intro (rfl : av5 = av5) (And.intro (show (0 : Nat) = (0 : Nat) by first | decide | exact Int.NonNeg.mk _) o5))))) (L30a.nx n g j1 j2 k p m f (k_ := k_) (z_ := (av5, al5, a6)) (h_ := [AObj.var (AV.agg [AV.sl 2 n fun (i : Nat) => AV.agg [AV.int IntKind.i64 (g i).lo, AV.int IntKind.i64 (g i).hi], AV.int IntKind.i64 j1, AV.int IntKind.i64 j2, AV.sl 2 k fun (i : Nat) => AV.agg [AV.int IntKind.i64 (p i).lo, AV.int IntKind.i64 (p i).hi]]), AObj.row 1 (av5 + 1) (Col.ints IntKind.i64 (al5 ++ [IntKind.i64.wrap ((g a6.toNat).lo + 0)])), AObj.var (AV.agg [AV.int IntKind.i64 (g a6.toNat).lo, AV.int IntKind.i64 (g a6.toNat).hi])]) ((av5 + 1, al5 ++ [IntKind.i64.wrap ((g a6.toNat).lo + 0)], IntKind.i64.wrap (a6 + 1))) (And.intro o6 (And.intro o7 o10)) o9 (by first | (simp only [L30a.N, h1, h2, h3, cond_true, cond_false]; done) | (try unfold L30a.N; try simp only [h1, cond_true, cond_false]; try simp only [h2, cond_true, cond_false]; try simp only [h3, cond_true, cond_false]; try rfl; done)) (PopOk.popLow _ rfl rfl (by simp [L30a.T, L30a.X, L30a.H, L30a.XH]) (by simp [L30a.T, L30a.X, L30a.H, L30a.XH])))))))))))))))))⟩
    | false =>
      have h2p := of_decide_eq_false h2
      have o4 : (al5.length + (1 : Nat)) * (8 : Nat) ≤ (140737488355328 : Nat) := by first | assumption | omega | (simp only [List.length_append, List.length_cons, List.length_nil, List.length_map]; omega) | (simp_all; done)
      have o5 : al5.length = (Col.ints IntKind.i64 al5).len := by first | assumption | omega | (simp only [List.length_append, List.length_cons, List.length_nil, List.length_map]; omega) | rfl | (exact Nat.le_refl _) | (simp [Col.len]; done) | (simp_all; done)
      try have := IntWalk.i64_in (a6 + 1) (by omega)
      have o6 : (0 : Int) ≤ IntKind.i64.wrap (a6 + (1 : Int)) := by first | assumption | omega | (simp_all; done)
      have o7 : IntKind.i64.wrap (a6 + (1 : Int)) ≤ (↑n : Int) ∨ IntKind.i64.wrap (a6 + (1 : Int)) ≤ (0 : Int) := by first | assumption | omega | (simp_all; done)
      try have := IntWalk.i64_in ((g a6.toNat).lo + 0) (by omega)
      have o10 : (↑(al5 ++ [IntKind.i64.wrap ((g a6.toNat).lo + (0 : Int))]).length : Int) ≤ IntKind.i64.wrap (a6 + (1 : Int)) - (0 : Int) := by first | assumption | omega | (simp only [List.length_append, List.length_cons, List.length_nil, List.length_map]; omega) | (simp_all; done)
      have o9 : ((↑n : Int) - IntKind.i64.wrap (a6 + (1 : Int))).toNat < ((↑n : Int) - a6).toNat := by first | assumption | omega | (simp_all; done)
      exact ⟨[.b true, .b false, .b false, .b false, .b false, .b false, .b false, .b false, .b false, .b false, .b false, .app .one false], kmp (by kernel_rfl) (And.intro h1 (And.intro (And.intro o0 o1) (And.intro h2 (And.intro h2 (And.intro h2 (And.intro h2 (And.intro h2 (And.intro h2 (And.intro (rfl : false = false) (And.intro (rfl : false = false) (And.intro (rfl : false = false) (And.intro (rfl : false = false) (And.intro (And.intro (show (1 : Nat) = (1 : Nat) by first | decide | exact Int.NonNeg.mk _) (And.intro (show AppMode.one.needs 1 fun (a : Nat) => (Col.ofList [AV.int IntKind.i64 (IntKind.i64.wrap ((g a6.toNat).lo + 0))]).get a by first | exact ⟨rfl, rfl⟩ | simp [AppMode.needs]) (And.intro o4 (And.intro (rfl : av5 = av5) (And.intro (show (0 : Nat) = (0 : Nat) by first | decide | exact Int.NonNeg.mk _) o5))))) (L30a.nx n g j1 j2 k p m f (k_ := k_) (z_ := (av5, al5, a6)) (h_ := [AObj.var (AV.agg [AV.sl 2 n fun (i : Nat) => AV.agg [AV.int IntKind.i64 (g i).lo, AV.int IntKind.i64 (g i).hi], AV.int IntKind.i64 j1, AV.int IntKind.i64 j2, AV.sl 2 k fun (i : Nat) => AV.agg [AV.int IntKind.i64 (p i).lo, AV.int IntKind.i64 (p i).hi]]), AObj.row 1 (av5 + 1) (Col.ints IntKind.i64 (al5 ++ [IntKind.i64.wrap ((g a6.toNat).lo + 0)])), AObj.var (AV.agg [AV.int IntKind.i64 (g a6.toNat).lo, AV.int IntKind.i64 (g a6.toNat).hi])]) ((av5 + 1, al5 ++ [IntKind.i64.wrap ((g a6.toNat).lo + 0)], IntKind.i64.wrap (a6 + 1))) (And.intro o6 (And.intro o7 o10)) o9 (by first | (simp only [L30a.N, h1, h2, cond_true, cond_false]; done) | (try unfold L30a.N; try simp only [h1, cond_true, cond_false]; try simp only [h2, cond_true, cond_false]; try rfl; done)) (PopOk.popLow _ rfl rfl (by simp [L30a.T, L30a.X, L30a.H, L30a.XH]) (by simp [L30a.T, L30a.X, L30a.H, L30a.XH]))))))))))))))))⟩
  | false =>
    have h1p := of_decide_eq_false h1
    exact ⟨[.b false], kmp (by kernel_rfl) (And.intro h1 (L30a.en n g j1 j2 k p m f (k_ := k_) (z_ := (av5, al5, a6)) (.e0 (av5) (al5) : L30a.O) (by first | (simp only [L30a.N, h1, cond_true, cond_false]; done) | (try unfold L30a.N; try simp only [h1, cond_true, cond_false]; try rfl; done)) PopOk.same))⟩
theorem L30a.e0 (n : Nat) (g : Nat → PD) (hn : n ≤ 512) (j1 : Int) (j2 : Int) (k : Nat) (p : Nat → PD) (m : Nat) (f : Nat → Int) (hm : m ≤ 9223372036854775807) (av5 : Nat) (al5 : List Int) (a6 : Int) (hinv : L30a.inv n g j1 j2 k p m f av5 al5 a6) (a0 : Nat) (a1 : List Int) (hN : L30a.run n g m f av5 al5 a6 = (.e0 a0 a1 : L30a.O)) : LoopTo Try.prog (loopN Try.f30 0) (L30a.T n g j1 j2 k p m f av5 al5 a6) (L30a.H n g j1 j2 k p m f av5 al5 a6) (Exit.exit 0) (L30a.X n g j1 j2 k p m f (.e0 a0 a1 : L30a.O)) (L30a.XH n g j1 j2 k p m f (.e0 a0 a1 : L30a.O)) := by
  have h_ := L30a.spec n g hn j1 j2 k p m f hm ((((↑n : Int) - a6).toNat) + 1) (av5, al5, a6) hinv (Nat.lt_succ_self _)
  unfold L30a.run at hN
  simp only [hN] at h_
  exact h_
theorem L30a.len0_1 (n : Nat) (g : Nat → PD) (m : Nat) (f : Nat → Int) : ∀ (m_ : Nat) (av5 : Nat) (al5 : List Int) (a6 : Int) (a0_ : Nat) (a1_ : List Int), L30a.N n g m f m_ av5 al5 a6 = (.e0 a0_ a1_ : L30a.O) → (a1_).length ≤ (al5).length + m_ := by
  intro m_
  induction m_ with
  | zero =>
    intro av5 al5 a6 a0_ a1_ h_
    simp only [L30a.N] at h_
    cases h_
    exact Nat.zero_le _
  | succ m_ ih_ =>
    intro av5 al5 a6 a0_ a1_ h_
    cases h1 : decide (a6 < (↑n : Int)) with
    | true =>
      have h1p := of_decide_eq_true h1
      cases h2 : decide (a6 < (↑m : Int)) with
      | true =>
        have h2p := of_decide_eq_true h2
        cases h3 : decide (f a6.toNat > 0) with
        | true =>
          have h3p := of_decide_eq_true h3
          cases h4 : decide (IntKind.i64.wrap (IntKind.i64.wrap ((g a6.toNat).hi - (g a6.toNat).lo) + 1) > 0) with
          | true =>
            have h4p := of_decide_eq_true h4
            (simp only [L30a.N, h1, h2, h3, h4, cond_true, cond_false] at h_; first | (have := ih_ _ _ _ _ _ h_; simp only [List.length_append, List.length_cons, List.length_nil] at this; omega) | (cases h_; done) | (cases h_; omega))
          | false =>
            have h4p := of_decide_eq_false h4
            (simp only [L30a.N, h1, h2, h3, h4, cond_true, cond_false] at h_; first | (have := ih_ _ _ _ _ _ h_; simp only [List.length_append, List.length_cons, List.length_nil] at this; omega) | (cases h_; done) | (cases h_; omega))
        | false =>
          have h3p := of_decide_eq_false h3
          (simp only [L30a.N, h1, h2, h3, cond_true, cond_false] at h_; first | (have := ih_ _ _ _ _ _ h_; simp only [List.length_append, List.length_cons, List.length_nil] at this; omega) | (cases h_; done) | (cases h_; omega))
      | false =>
        have h2p := of_decide_eq_false h2
        (simp only [L30a.N, h1, h2, cond_true, cond_false] at h_; first | (have := ih_ _ _ _ _ _ h_; simp only [List.length_append, List.length_cons, List.length_nil] at this; omega) | (cases h_; done) | (cases h_; omega))
    | false =>
      have h1p := of_decide_eq_false h1
      (simp only [L30a.N, h1, cond_true, cond_false] at h_; first | (have := ih_ _ _ _ _ _ h_; simp only [List.length_append, List.length_cons, List.length_nil] at this; omega) | (cases h_; done) | (cases h_; omega))
theorem L30a.lenR0_1 (n : Nat) (g : Nat → PD) (m : Nat) (f : Nat → Int) {av5 : Nat} {al5 : List Int} {a6 : Int} {a0_ : Nat} {a1_ : List Int} (h_ : L30a.run n g m f av5 al5 a6 = (.e0 a0_ a1_ : L30a.O)) : (a1_).length ≤ (al5).length + ((((↑n : Int) - a6).toNat) + 1) := L30a.len0_1 n g m f _ av5 al5 a6 a0_ a1_ h_

noncomputable def r30.v (n : Nat) (g : Nat → PD) (m : Nat) (f : Nat → Int) : List Int := (match L30a.run n g m f 0 [] 0 with | .e0 h1d0 h1d1 => h1d1 )
theorem r30 (n : Nat) (g : Nat → PD) (hn : n ≤ 512) (j1 : Int) (j2 : Int) (k : Nat) (p : Nat → PD) (m : Nat) (f : Nat → Int) (hm : m ≤ 9223372036854775807) (h : AHeap) : Ret Try.prog 30 ([rn n g j1 j2 k p, ivs m f]) h (avInts IntKind.i64 (r30.v n g m f)) h := by
  have o0 : n ≤ (512 : Nat) := by first | assumption | omega | (simp_all; done)
  have o1 : m ≤ (9223372036854775807 : Nat) := by first | assumption | omega | (simp_all; done)
  have o2 : (0 : Int) ≤ (↑n : Int) ∨ (0 : Int) ≤ (0 : Int) := by first | assumption | omega | (simp_all; done)
  cases h1 : L30a.run n g m f 0 [] 0 with
  | e0 h1d0 h1d1 =>
    try have := L30a.lenR0_1 _ _ _ _ (by assumption); (try simp only [List.length_nil] at this)
    have o3 : (0 : Nat) + h1d1.length ≤ (Col.ints IntKind.i64 h1d1).len := by first | assumption | omega | (simp only [List.length_append, List.length_cons, List.length_nil, List.length_map]; omega) | rfl | (exact Nat.le_refl _) | (simp [Col.len]; done) | (simp_all; done)
    exact Ret.of_run1 mix [(avInts IntKind.i64 (r30.v n g m f))] Try.func30 rfl [.virt [] [(none, 5, 1, Col.ints IntKind.i64 [])], .loop (others 58 [1, 2, 5, 6]) (Exit.exit 0) (L30a.X n g j1 j2 k p m f (L30a.O.e0 h1d0 h1d1)) (L30a.XH n g j1 j2 k p m f (L30a.O.e0 h1d0 h1d1))] (by simp) (by simp) (kmp (by kernel_rfl) (And.intro (And.intro (rfl : AV.snil = AV.snil) (And.intro (rfl : (0 : Nat) = 0) trivial)) (And.intro (L30a.e0 (n) (g) o0 (j1) (j2) (k) (p) (m) (f) o1 (0) ([]) (0) (And.intro (show (0 : Int) ≤ (0 : Int) by first | decide | exact Int.NonNeg.mk _) (And.intro o2 (show (0 : Int) ≤ (0 : Int) by first | decide | exact Int.NonNeg.mk _))) h1d0 h1d1 h1) (And.intro (And.intro (rfl : h1d0 = h1d0) (And.intro (show (1 : Nat) = (1 : Nat) by first | decide | exact Int.NonNeg.mk _) (And.intro o3 (show ((avInts IntKind.i64 h1d1)) = ((avInts IntKind.i64 (r30.v n g m f))) by first | (simp only [r30.v, h1, cond_true, cond_false]; done) | (try unfold r30.v; try simp only [h1, cond_true, cond_false]; try rfl; done) | rfl)))) trivial)))) h

end Go.Proofs.Ytjdakdjgkpfjkaa

/- Plain laws: chosen lengths; what closes for all lengths. Conditions: none. -/
open Go
namespace Go.Proofs.Ytjdakdjgkpfjkaa
set_option linter.unusedVariables false
set_option linter.unusedSimpArgs false
variable {n : Nat} {g : Nat → PD} {j1 j2 : Int} {k : Nat} {p : Nat → PD} {m : Nat} {f : Nat → Int}

/-- One chosen length. -/
def pk (g : Nat → PD) (m : Nat) (f : Nat → Int) (i : Nat) : Int :=
  if i < m ∧ f i > 0 then (g i).lo + (f i).tmod ((g i).hi - (g i).lo + 1) else (g i).lo
theorem pk_bd (h : ROk n g j1 j2 k p) {i : Nat} (hi : i < n) : (g i).lo ≤ pk g m f i ∧ pk g m f i ≤ (g i).hi := by
  have h2 := h.l2 i hi
  unfold pk
  split
  · next c =>
    have a := Int.tmod_nonneg ((g i).hi - (g i).lo + 1) (Int.le_of_lt c.2)
    have b := Int.tmod_lt_of_pos (f i) (show 0 < (g i).hi - (g i).lo + 1 by omega)
    omega
  · omega

theorem L30_run (h : ROk n g j1 j2 k p) : ∀ q c v l, c ≤ n → n - c < q → ∃ v', L30a.N n g m f q v l (c : Int) = .e0 v' (l ++ (List.range' c (n - c)).map (pk g m f)) := by
  have hn := h.le
  intro q
  induction q with
  | zero => intro c v l _ h; omega
  | succ q ih =>
    intro c v l hc hq
    simp only [L30a.N, Int.toNat_natCast]
    by_cases hlt : c < n
    · have h1 := h.l1 c hlt
      have h2 := h.l2 c hlt
      have h3 := h.l3 c hlt
      have hb := pk_bd (m := m) (f := f) h hlt
      have w1 : IntKind.i64.wrap (IntKind.i64.wrap ((g c).hi - (g c).lo) + 1) = (g c).hi - (g c).lo + 1 := by
        rw [i64_small (x := (g c).hi - (g c).lo) (by omega), i64_small (by omega)]
      have w2 : IntKind.i64.wrap ((g c).lo + 0) = (g c).lo + 0 := i64_small (by omega)
      simp only [w1, w2]
      rw [decide_eq_true (show (c : Int) < (n : Int) by omega), wrap_succ (n := n) (by omega) hlt, range_step _ hlt, decide_eq_true (show (g c).hi - (g c).lo + 1 > 0 by omega)]
      simp only [cond_true]
      by_cases c1 : c < m
      · by_cases c2 : f c > 0
        · have e : pk g m f c = (g c).lo + (f c).tmod ((g c).hi - (g c).lo + 1) := by unfold pk; rw [if_pos ⟨c1, c2⟩]
          rw [decide_eq_true (show (c : Int) < (m : Int) by omega), decide_eq_true c2]
          simp only [cond_true]
          rw [← e, i64_small (by omega)]
          obtain ⟨v', q1⟩ := ih (c + 1) (v + 1) (l ++ [pk g m f c]) hlt (by omega)
          exact ⟨v', by rw [q1, List.append_assoc]; rfl⟩
        · have e : pk g m f c = (g c).lo + 0 := by unfold pk; rw [if_neg fun q => c2 q.2]; omega
          rw [decide_eq_true (show (c : Int) < (m : Int) by omega), decide_eq_false c2]
          simp only [cond_true, cond_false]
          rw [← e]
          obtain ⟨v', q1⟩ := ih (c + 1) (v + 1) (l ++ [pk g m f c]) hlt (by omega)
          exact ⟨v', by rw [q1, List.append_assoc]; rfl⟩
      · have e : pk g m f c = (g c).lo + 0 := by unfold pk; rw [if_neg fun q => c1 q.1]; omega
        rw [decide_eq_false (show ¬ (c : Int) < (m : Int) by omega)]
        simp only [cond_false]
        rw [← e]
        obtain ⟨v', q1⟩ := ih (c + 1) (v + 1) (l ++ [pk g m f c]) hlt (by omega)
        exact ⟨v', by rw [q1, List.append_assoc]; rfl⟩
    · rw [decide_eq_false (by omega), show n - c = 0 by omega]
      exact ⟨v, by simp⟩

theorem r30_eq (h : ROk n g j1 j2 k p) : r30.v n g m f = (List.range' 0 n).map (pk g m f) := by
  obtain ⟨v', e⟩ := L30_run (m := m) (f := f) h (n + 1) 0 0 [] (Nat.zero_le _) (by omega)
  have e' : L30a.run n g m f 0 [] 0 = .e0 v' ((List.range' 0 n).map (pk g m f)) := by simpa [L30a.run] using e
  unfold r30.v
  rw [e']
theorem r30_len (h : ROk n g j1 j2 k p) : (r30.v n g m f).length = n := by rw [r30_eq h]; simp
theorem r30_get (h : ROk n g j1 j2 k p) {i : Nat} (hi : i < n) : (r30.v n g m f).getD i 0 = pk g m f i := by
  rw [r30_eq h]; simp [List.getD_eq_getElem?_getD, List.getElem?_range', hi]
theorem okL_intro {m : Nat} (h : ∀ i, i < m → (g i).lo ≤ f i ∧ f i ≤ (g i).hi) : okL g m f = true := by
  unfold okL
  rw [anyN_false.2 fun i hi => by have := h i hi; simp only [Bool.or_eq_false_iff, decide_eq_false_iff_not]; omega]
  rfl
theorem okL_elim {m : Nat} (h : okL g m f = true) : ∀ i, i < m → (g i).lo ≤ f i ∧ f i ≤ (g i).hi := by
  intro i hi
  have := anyN_false.1 (by simpa [okL] using h) i hi
  simp only [Bool.or_eq_false_iff, decide_eq_false_iff_not] at this
  omega
theorem pick_ok (h : ROk n g j1 j2 k p) : okL g n (fun i => (r30.v n g m f).getD i 0) = true :=
  okL_intro fun i hi => by rw [r30_get h hi]; exact pk_bd h hi

theorem sumB_le {f f' : Nat → Int} {u : Nat} : ∀ c, (∀ i, u ≤ i → i < u + c → f i ≤ f' i) → sumB f u c ≤ sumB f' u c := by
  intro c
  induction c with
  | zero => intro _; simp [sumB]
  | succ c ih =>
    intro h
    have h1 := ih fun i a b => h i a (by omega)
    have h2 := h (u + c) (by omega) (by omega)
    simp only [sumB]
    omega
theorem sumB_congr {f f' : Nat → Int} {u : Nat} : ∀ c, (∀ i, u ≤ i → i < u + c → f i = f' i) → sumB f u c = sumB f' u c := by
  intro c h
  have a := sumB_le (f := f) (f' := f') (u := u) c fun i a b => Int.le_of_eq (h i a b)
  have b := sumB_le (f := f') (f' := f) (u := u) c fun i a b => Int.le_of_eq (h i a b).symm
  omega

/-- A part's sum of lengths within their intervals. -/
theorem part_bd (h : ROk n g j1 j2 k p) (ho : okL g n f = true) {i : Nat} (hi : i < k) :
    prm p i - sHi g (pa p i) (pb p i) ≤ lft p f i ∧ lft p f i ≤ prm p i - sLo g (pa p i) (pb p i) := by
  have hab := pab h.pl hi
  have hb := okL_elim ho
  have a := sumB_le (f := fun i => (g i).lo) (f' := f) (u := pa p i) (pb p i - pa p i) fun j a b => (hb j (by omega)).1
  have b := sumB_le (f := f) (f' := fun i => (g i).hi) (u := pa p i) (pb p i - pa p i) fun j a b => (hb j (by omega)).2
  unfold lft sHi sLo
  omega

/-- A run that closes has widths for all lengths. -/
theorem closes_fit (h : ROk n g j1 j2 k p) (ho : okL g n f = true) {i : Nat} (hi : i < k) (h1 : long n g j1 p i = false) (h2 : short n g j2 p i = false) : badJ n j1 j2 p f i = false := by
  have b := part_bd h ho hi
  unfold long at h1
  unfold short at h2
  unfold badJ jb
  simp only [decide_eq_false_iff_not, Bool.or_eq_false_iff] at h1 h2 ⊢
  omega

/-- Closes, in plain words. -/
theorem r18_cases (hn : n ≤ 9223372036854775807) (hk : k ≤ 30) :
    (r18.v0 n g j1 j2 k p = false ∧ r18.v1 n g j1 j2 k p ≠ 0 ∧ r16.v n g j1 j2 k p ≠ 0) ∨
    (ROk n g j1 j2 k p ∧ r16.v n g j1 j2 k p = 0 ∧ r18.v1 n g j1 j2 k p = 0 ∧ r18.v0 n g j1 j2 k p = !anyN k fun i => long n g j1 p i || short n g j2 p i) := by
  unfold r18.v0 r18.v1
  cases hz : (r16.v n g j1 j2 k p == 0) with
  | false => exact .inl ⟨rfl, by simpa using hz, by simpa using hz⟩
  | true =>
    have hr := checked hn (by omega) (eq_of_beq hz)
    refine .inr ⟨hr, eq_of_beq hz, rfl, ?_⟩
    simp only [cond_true]
    rcases r41_cases hr hk with ⟨a1, a2, _⟩ | ⟨i, a0, a1, _, a2, _⟩
    · rw [a2, anyN_false.2 fun i hi => by rw [(a1 i hi).1, (a1 i hi).2]; rfl]; rfl
    · rw [a2, anyN_true.2 ⟨i, a0, a1⟩, decide_eq_false (by omega)]; rfl

/-! ### The widths of a part -/
theorem wdt_facts (h : ROk n g j1 j2 k p) {i : Nat} (hi : i < k) (hb : badJ n j1 j2 p f i = false) {x : Nat} (hx : x < (jb n p i).toNat) :
    j1 ≤ wdt (lft p f i) (jb n p i) x ∧ wdt (lft p f i) (jb n p i) x ≤ j2 := by
  have hm := bad_mul h hi
  unfold badJ at hb
  simp only [decide_eq_false_iff_not, Bool.or_eq_false_iff] at hb
  have hJ : 0 < jb n p i := by omega
  have h0 : 0 ≤ lft p f i := by omega
  have hd := Int.mul_tdiv_add_tmod (lft p f i) (jb n p i)
  have r0 := Int.tmod_nonneg (jb n p i) h0
  have r1 := Int.tmod_lt_of_pos (lft p f i) hJ
  have l1 : j1 ≤ (lft p f i).tdiv (jb n p i) := by
    by_cases c : j1 ≤ (lft p f i).tdiv (jb n p i)
    · exact c
    · have := Int.mul_le_mul_of_nonneg_left (show (lft p f i).tdiv (jb n p i) + 1 ≤ j1 by omega) hm.1
      rw [Int.mul_add, Int.mul_one] at this
      omega
  have l2 : (lft p f i).tdiv (jb n p i) ≤ j2 := by
    by_cases c : (lft p f i).tdiv (jb n p i) ≤ j2
    · exact c
    · have := Int.mul_le_mul_of_nonneg_left (show j2 + 1 ≤ (lft p f i).tdiv (jb n p i) by omega) hm.1
      rw [Int.mul_add, Int.mul_one] at this
      omega
  unfold wdt
  split
  · next c =>
    refine ⟨by omega, ?_⟩
    by_cases e : (lft p f i).tdiv (jb n p i) = j2
    · rw [e] at hd
      omega
    · omega
  · exact ⟨l1, l2⟩

theorem sumB_add2 (f : Nat → Int) (u a : Nat) : ∀ b, sumB f u (a + b) = sumB f u a + sumB f (u + a) b := by
  intro b
  induction b with
  | zero => simp [sumB]
  | succ b ih =>
    rw [← Nat.add_assoc]
    simp only [sumB]
    rw [ih, Nat.add_assoc u a b]
    omega
theorem sumB_const (f : Nat → Int) (w : Int) : ∀ c u, (∀ i, u ≤ i → i < u + c → f i = w) → sumB f u c = c * w := by
  intro c
  induction c with
  | zero => intro u _; simp [sumB]
  | succ c ih =>
    intro u h
    simp only [sumB]
    rw [ih u fun i a b => h i a (by omega), h (u + c) (by omega) (by omega), Int.natCast_add, Int.add_mul]
    simp

theorem wdt_sum {q J : Int} (hq : 0 ≤ q) (hJ : 0 < J) : sumB (wdt q J) 0 J.toNat = q := by
  have hd := Int.mul_tdiv_add_tmod q J
  have r0 := Int.tmod_nonneg J hq
  have r1 := Int.tmod_lt_of_pos q hJ
  have e := sumB_add2 (wdt q J) 0 (q.tmod J).toNat (J.toNat - (q.tmod J).toNat)
  rw [show (q.tmod J).toNat + (J.toNat - (q.tmod J).toNat) = J.toNat by omega] at e
  rw [e, sumB_const (wdt q J) (q.tdiv J + 1) _ 0 (fun i a b => by unfold wdt; rw [if_pos (by omega)]), sumB_const (wdt q J) (q.tdiv J) _ (0 + (q.tmod J).toNat) (fun i a b => by unfold wdt; rw [if_neg (by omega)])]
  rw [show (((q.tmod J).toNat : Nat) : Int) = q.tmod J by omega, show ((J.toNat - (q.tmod J).toNat : Nat) : Int) = J - q.tmod J by omega, Int.mul_add, Int.sub_mul, Int.mul_one]
  omega

/-- The widths of part i stand behind those of the parts before. -/
theorem wLs_get (h : ROk n g j1 j2 k p) : ∀ c i, i + c = k → ∀ t x, i ≤ t → t < k → x < (jb n p t).toNat → (wLs n p f i c).getD (pa p t - pa p i + x) 0 = wdt (lft p f t) (jb n p t) x := by
  intro c
  induction c with
  | zero => intro i hi t x h1 h2; omega
  | succ c ih =>
    intro i hi t x h1 h2 hx
    have hik : i < k := by omega
    have hl := wL_len (f := f) h hik
    have hjf := jb_fit h hik
    have hab := pab h.pl hik
    simp only [wLs, List.getD_eq_getElem?_getD]
    by_cases e : t = i
    · subst e
      rw [Nat.sub_self, Nat.zero_add, List.getElem?_append_left (by omega)]
      unfold wL
      simp [List.getElem?_range', hx]
    · have e1 : pb p i ≠ n := fun q => by have := (pb_last h hik).1 q; omega
      have hj := jb_eq (n := n) (p := p) i
      rw [if_neg e1] at hj
      have e2 := pa_succ h (i := i) (by omega)
      have hmono : pa p (i + 1) ≤ pa p t := by
        have a := pl_mono h.pl i (t - 1) (by omega) (by omega)
        have e3 := pa_succ h (i := t - 1) (by omega)
        rw [show t - 1 + 1 = t by omega] at e3
        rw [e2, e3]
        unfold pb
        omega
      rw [List.getElem?_append_right (by omega), hl]
      have := ih (i + 1) (by omega) t x (by omega) h2 hx
      rw [List.getD_eq_getElem?_getD] at this
      rw [← this, show pa p t - pa p i + x - (jb n p i).toNat = pa p t - pa p (i + 1) + x by omega]

theorem wLs_at (h : ROk n g j1 j2 k p) {t x : Nat} (ht : t < k) (hx : x < (jb n p t).toNat) : (wLs n p f 0 k).getD (pa p t + x) 0 = wdt (lft p f t) (jb n p t) x := by
  have := wLs_get (f := f) h k 0 (by omega) t x (Nat.zero_le _) ht hx
  rwa [show pa p 0 = 0 from rfl, Nat.sub_zero] at this

/-- Every joint belongs to a part. -/
theorem joint_part (h : ROk n g j1 j2 k p) {i : Nat} (hi : i < n - 1) : ∃ t x, t < k ∧ x < (jb n p t).toNat ∧ i = pa p t + x := by
  have key : ∀ c t, t + c = k → i < pa p t → ∃ t x, t < k ∧ x < (jb n p t).toNat ∧ i = pa p t + x := by
    intro c t hc hlt
    induction t generalizing c with
    | zero => have : pa p 0 = 0 := rfl; omega
    | succ t ih =>
      have htk : t + 1 ≤ k := by omega
      by_cases q : i < pa p t
      · exact ih (c + 1) (by omega) q
      · by_cases e : t + 1 < k
        · have e2 := pa_succ h e
          have e1 : pb p t ≠ n := fun q => by have := (pb_last h (by omega)).1 q; omega
          have hj := jb_eq (n := n) (p := p) t
          rw [if_neg e1] at hj
          have hab := pab h.pl (show t < k by omega)
          exact ⟨t, i - pa p t, by omega, by omega, by omega⟩
        · have e1 : pb p t = n := (pb_last h (by omega)).2 (by omega)
          have hj := jb_eq (n := n) (p := p) t
          rw [if_pos e1] at hj
          have hab := pab h.pl (show t < k by omega)
          exact ⟨t, i - pa p t, by omega, by omega, by omega⟩
  have hp := h.pl.pos
  by_cases q : i < pa p (k - 1)
  · exact key 1 (k - 1) (by omega) q
  · have e1 : pb p (k - 1) = n := (pb_last h (by omega)).2 (by omega)
    have hj := jb_eq (n := n) (p := p) (k - 1)
    rw [if_pos e1] at hj
    have hab := pab h.pl (show k - 1 < k by omega)
    exact ⟨k - 1, i - pa p (k - 1), by omega, by omega, by omega⟩

/-- The widths that Joints hands back meet the run. -/
theorem wLs_meets (h : ROk n g j1 j2 k p) (ho : okL g n f = true) (hb : ∀ t, t < k → badJ n j1 j2 p f t = false) : meets n g j1 j2 k p f (fun i => (wLs n p f 0 k).getD i 0) = true := by
  unfold meets
  rw [ho]
  have h1 : okJ j1 j2 (n - 1) (fun i => (wLs n p f 0 k).getD i 0) = true := by
    unfold okJ
    rw [anyN_false.2 fun i hi => ?_]; rfl
    obtain ⟨t, x, h1, h2, rfl⟩ := joint_part h hi
    have := wdt_facts h h1 (hb t h1) h2
    simp only [wLs_at h h1 h2, Bool.or_eq_false_iff, decide_eq_false_iff_not]
    omega
  have h2 : anyN k (fun i => !mtB n p f (fun i => (wLs n p f 0 k).getD i 0) i) = false := anyN_false.2 fun t ht => by
    have hm := bad_mul h ht
    have hbt := hb t ht
    unfold badJ at hbt
    simp only [decide_eq_false_iff_not, Bool.or_eq_false_iff] at hbt
    have hq : sumB (fun i => (wLs n p f 0 k).getD i 0) (pa p t) (jb n p t).toNat = lft p f t := by
      have e : sumB (fun i => (wLs n p f 0 k).getD i 0) (pa p t) (jb n p t).toNat = sumB (wdt (lft p f t) (jb n p t)) 0 (jb n p t).toNat := by
        rw [← sumB_shift (fun i => (wLs n p f 0 k).getD i 0)]
        exact sumB_congr _ fun x a b => wLs_at h ht (by omega)
      rw [e]
      by_cases hJ : 0 < jb n p t
      · exact wdt_sum (by omega) hJ
      · have hz : jb n p t = 0 := by omega
        rw [hz] at hbt ⊢
        simp only [Int.zero_mul] at hbt
        simp [sumB]; omega
    unfold mtB
    rw [hq]; simp
  rw [h1, h2]; rfl

/-! ### Bounds for the walks -/
theorem bd18 (h0 : (r18.v1 n g j1 j2 k p == 0) = true) (hn : n ≤ 9223372036854775807) (hk : k ≤ 30) : ROk n g j1 j2 k p ∧ n ≤ 512 ∧ r16.v n g j1 j2 k p = 0 ∧ ∀ (m : Nat) (f : Nat → Int), (r30.v n g m f).length = n := by
  rcases r18_cases (n := n) (g := g) (j1 := j1) (j2 := j2) (p := p) hn hk with ⟨_, b, _⟩ | ⟨a, b, _⟩
  · exact absurd (eq_of_beq h0) b
  · exact ⟨a, a.le, b, fun m f => r30_len a⟩
theorem bd18a (h0 : (r18.v1 n g j1 j2 k p == 0) = true) (hn : n ≤ 9223372036854775807) (hk : k ≤ 30) : n ≤ 512 := (bd18 h0 hn hk).2.1
theorem len30 (h0 : (r18.v1 n g j1 j2 k p == 0) = true) (hn : n ≤ 9223372036854775807) (hk : k ≤ 30) : (r30.v n g m f).length ≤ 9223372036854775807 := by
  have := bd18 h0 hn hk; have := this.2.2.2 m f; omega
theorem len22 (h0 : (r22.v1 n g j1 j2 k p m f == 0) = true) (hn : n ≤ 9223372036854775807) (hk : k ≤ 30) : (r22.v0 n g j1 j2 k p m f).length ≤ 9223372036854775807 := by
  have := bd22len h0 hn hk; omega
theorem mm_le {a L x : Int} : (if (if L < x then L else x) > a then (if L < x then L else x) else a) ≤ L ∨ (if (if L < x then L else x) > a then (if L < x then L else x) else a) ≤ a := by
  split <;> split <;> omega
theorem mm_0 {a L x : Int} (h : 0 ≤ a) : 0 ≤ (if (if L < x then L else x) > a then (if L < x then L else x) else a) := by
  split <;> split <;> omega
theorem mm_512 {a L x : Int} (h : a ≤ 512) (hL : L ≤ 512) : (if (if L < x then L else x) > a then (if L < x then L else x) else a) ≤ 512 := by
  split <;> split <;> omega
end Go.Proofs.Ytjdakdjgkpfjkaa

/- Chosen lengths as a row of the caller's own. Conditions: none. -/
open Go
namespace Go.Proofs.Ytjdakdjgkpfjkaa
set_option maxHeartbeats 0
set_option maxRecDepth 100000
set_option linter.unusedVariables false
set_option linter.unusedSimpArgs false
noncomputable def v30 (n : Nat) (g : Nat → PD) (m : Nat) (f : Nat → Int) : Nat := match L30a.run n g m f 0 [] 0 with | .e0 a _ => a
def pks (n : Nat) (g : Nat → PD) (m : Nat) (f : Nat → Int) : List Int := (List.range' 0 n).map (pk g m f)
theorem pks_len {n : Nat} {g : Nat → PD} {m : Nat} {f : Nat → Int} : (pks n g m f).length = n := by simp [pks]
theorem pks_get {n : Nat} {g : Nat → PD} {m : Nat} {f : Nat → Int} {i : Nat} (hi : i < n) : (pks n g m f).getD i 0 = pk g m f i := by
  simp [pks, List.getD_eq_getElem?_getD, List.getElem?_range', hi]
theorem o30 (n : Nat) (g : Nat → PD) (hn : n ≤ 512) (j1 : Int) (j2 : Int) (k : Nat) (p : Nat → PD) (m : Nat) (f : Nat → Int) (hm : m ≤ 9223372036854775807) (h : AHeap) : Ret Try.prog 30 ([rn n g j1 j2 k p, ivs m f]) h (AV.ms h.length (v30 n g m f) 1 0 (r30.v n g m f).length) (h ++ [AObj.row 1 (v30 n g m f) (Col.ints IntKind.i64 (r30.v n g m f))]) := by
  have o2 : (0 : Int) ≤ (↑n : Int) ∨ (0 : Int) ≤ (0 : Int) := by omega
  cases h1 : L30a.run n g m f 0 [] 0 with
  | e0 h1d0 h1d1 =>
    have e : r30.v n g m f = h1d1 := by unfold r30.v; rw [h1]
    have e2 : v30 n g m f = h1d0 := by unfold v30; rw [h1]
    rw [e, e2]
    exact Ret.of_runO mix 1 h1d0 IntKind.i64 h1d1 Try.func30 rfl [.virt [] [(none, 5, 1, Col.ints IntKind.i64 [])], .loop (others 58 [1, 2, 5, 6]) (Exit.exit 0) (L30a.X n g j1 j2 k p m f (L30a.O.e0 h1d0 h1d1)) (L30a.XH n g j1 j2 k p m f (L30a.O.e0 h1d0 h1d1))] (by simp) (kmp (by kernel_rfl) (And.intro (And.intro (rfl : AV.snil = AV.snil) (And.intro (rfl : (0 : Nat) = 0) trivial)) (And.intro (L30a.e0 (n) (g) hn (j1) (j2) (k) (p) (m) (f) hm (0) ([]) (0) (And.intro (show (0 : Int) ≤ (0 : Int) by first | decide | exact Int.NonNeg.mk _) (And.intro o2 (show (0 : Int) ≤ (0 : Int) by first | decide | exact Int.NonNeg.mk _))) h1d0 h1d1 h1) (And.intro (rfl : [AV.ms 1 h1d0 1 0 h1d1.length] = [AV.ms 1 h1d0 1 0 h1d1.length]) (rfl : some (AObj.row 1 h1d0 (Col.ints IntKind.i64 h1d1)) = some (AObj.row 1 h1d0 (Col.ints IntKind.i64 h1d1))))))) h
theorem c30o (n : Nat) (g : Nat → PD) (hn : n ≤ 512) (j1 : Int) (j2 : Int) (k : Nat) (p : Nat → PD) (hr : ROk n g j1 j2 k p) (m : Nat) (f : Nat → Int) (hm : m ≤ 9223372036854775807) (h : AHeap) : Ret Try.prog 30 ([rn n g j1 j2 k p, ivs m f]) h (AV.ms h.length (v30 n g m f) 1 0 n) (h ++ [AObj.row 1 (v30 n g m f) (Col.ints IntKind.i64 (pks n g m f))]) := by
  have := o30 n g hn j1 j2 k p m f hm h
  rw [r30_len hr, r30_eq hr] at this
  exact this
end Go.Proofs.Ytjdakdjgkpfjkaa

/- The wall of the chapter's examples. Conditions: none. -/
open Go
namespace Go.Proofs.Ytjdakdjgkpfjkaa
set_option linter.unusedVariables false
set_option linter.unusedSimpArgs false
def tabL : List Int :=
  List.replicate 40 0 ++ [4, 4, 0, 4, 4, 0, 0, 4] ++ List.replicate 10 2 ++ [4, 0, 4, 4, 4, 0, 0] ++ List.replicate 26 1 ++ [0, 0, 0, 0, 3, 0] ++ List.replicate 26 1 ++ List.replicate 133 0
def tab : AV := .agg (tabL.map (.int .u8))
set_option maxHeartbeats 0
theorem r96 (h : AHeap) : Ret Try.prog 96 [] h tab h :=
  (interp_sound mix (c0 := fun _ _ _ => none) (fun _ _ _ _ _ h => by cases h) 300 96 [] [] tab [] (by kernel_rfl)).frame (by simp) h

def c96 : CallF := fun g args h => match Nat.beq g 96, args with
  | true, [] => some (tab, h)
  | _, _ => none
theorem c96_ok : CallOk Try.prog c96 := by
  intro g args h r h' hc
  unfold c96 at hc
  split at hc
  · rename_i hg
    cases Nat.eq_of_beq_eq_true hg
    cases hc
    exact r96 h
  · cases hc
def stone (s : UInt8) (x w t b : Int) : List AV := [.str (ByteArray.mk #[s]), .int .i64 x, .int .i64 0, .int .i64 w, .int .i64 t, .int .i64 b, .int .i64 0, .int .i64 0, .int .i64 0, .int .i64 0, .str (ByteArray.mk #[]), .int .i64 0, .str (ByteArray.mk #[]), .snil]
def wallA : AV := .agg [.str (ByteArray.mk #[119]), .sl 14 2 (fun a => (Col.ofList [.agg (stone 97 300 200 1 0), .agg (stone 98 290 200 2 310)]).get a), .int .i64 0, .int .i64 5, .int .i64 10, .int .i64 600]
def eqI (a : AV) (x : Int) : Bool := match a with | .int .i64 y => decide (y = x) | _ => false
def eqP (a : AV) (x y : Int) : Bool := match a with | .agg [p, q] => eqI p x && eqI q y | _ => false
def isRun (r : AV × AHeap) : Bool :=
  match r with
  | (.tup [.agg [.sl 2 2 f, a, b, .sl 2 1 g], e], []) => eqP (f 0) 299 301 && (eqP (f 1) 288 292 && (eqI a 5 && (eqI b 10 && (eqP (g 0) 2 600 && eqI e 0))))
  | _ => false
theorem eqI_eq {a : AV} {x : Int} (h : eqI a x = true) : a = .int .i64 x := by
  unfold eqI at h
  split at h
  · rw [of_decide_eq_true h]
  · cases h
theorem eqP_eq {a : AV} {x y : Int} (h : eqP a x y = true) : a = (PD.mk x y).av := by
  unfold eqP at h
  split at h
  · rw [Bool.and_eq_true] at h
    rw [eqI_eq h.1, eqI_eq h.2]
    rfl
  · cases h
def ofG (i : Nat) : PD := [PD.mk 299 301, PD.mk 288 292].getD i default
theorem isRun_imp {r : AV × AHeap} (h : isRun r = true) : Imp r.1 (.tup [rn 2 ofG 5 10 1 (fun _ => ⟨2, 600⟩), .int .i64 0]) ∧ r.2 = [] := by
  unfold isRun at h
  split at h
  · rename_i f a b g e
    simp only [Bool.and_eq_true] at h
    obtain ⟨h1, h2, h3, h4, h5, h6⟩ := h
    rw [eqI_eq h3, eqI_eq h4, eqI_eq h6]
    refine ⟨.tup (.cons (.agg (.cons (Imp.sl fun i hi => ?_) (.cons (.refl _) (.cons (.refl _) (.cons (Imp.sl fun i hi => ?_) .nil))))) (.cons (.refl _) .nil)), rfl⟩
    · rcases i with _ | _ | i
      · rw [eqP_eq h1]; exact ImpL.refl _
      · rw [eqP_eq h2]; exact ImpL.refl _
      · omega
    · rcases i with _ | i
      · rw [eqP_eq h5]; exact ImpL.refl _
      · omega
  · cases h
theorem run32 : (interp Try.prog c96 300 32 [wallA, .int .i64 0] []).map isRun = some true := by kernel_rfl
theorem c32 (h : AHeap) : Ret Try.prog 32 [wallA, .int .i64 0] h (.tup [rn 2 ofG 5 10 1 (fun _ => ⟨2, 600⟩), .int .i64 0]) h := by
  have h0 := run32
  cases hx : interp Try.prog c96 300 32 [wallA, .int .i64 0] [] with
  | none => rw [hx] at h0; cases h0
  | some x =>
    rw [hx] at h0
    obtain ⟨h1, h2⟩ := isRun_imp (r := x) (by simpa using h0)
    have := interp_sound mix c96_ok 300 32 [wallA, .int .i64 0] [] x.1 x.2 hx
    rw [h2] at this
    refine (this.out h1).frame ?_ h
    simp [wallA, stone]
end Go.Proofs.Ytjdakdjgkpfjkaa

/- the examples of the chapter. -/
open Go
namespace Go.Proofs.Ytjdakdjgkpfjkaa
set_option linter.unusedSimpArgs false
set_option linter.unusedVariables false
set_option maxHeartbeats 0
set_option maxRecDepth 100000
noncomputable def r11.v : Bool := 0 == 0
noncomputable abbrev r11.h0 : AHeap := ([AObj.var (AV.agg [AV.int IntKind.i64 608, AV.int IntKind.i64 622]), AObj.var (AV.agg [AV.sl 2 2 fun (i : Nat) => AV.agg [AV.int IntKind.i64 (ofG i).lo, AV.int IntKind.i64 (ofG i).hi], AV.int IntKind.i64 5, AV.int IntKind.i64 10, AV.sl 2 1 fun (i : Nat) => AV.agg [AV.int IntKind.i64 ((fun (x : Nat) => PD.mk 2 600) i).lo, AV.int IntKind.i64 ((fun (x : Nat) => PD.mk 2 600) i).hi]])])
theorem r11 (h : AHeap) : Ret Try.prog 11 ([]) h (AV.bool r11.v) h := by
  exact Ret.of_run1 mix [(AV.bool r11.v)] Try.func11 rfl [.ret (AV.agg [AV.sl 2 3 fun (i : Nat) => AV.agg [AV.int IntKind.i64 ((fun (x : Nat) => three 2) i).lo, AV.int IntKind.i64 ((fun (x : Nat) => three 2) i).hi], AV.int IntKind.i64 5, AV.int IntKind.i64 10, AV.sl 2 1 fun (i : Nat) => AV.agg [AV.int IntKind.i64 ((fun (x : Nat) => PD.mk 3 915) i).lo, AV.int IntKind.i64 ((fun (x : Nat) => PD.mk 3 915) i).hi]]) ([]), .ret (AV.tup [AV.int IntKind.i64 0, AV.sl 1 3 fun (a : Nat) => AV.int IntKind.i64 ((r19.v1 3 (fun (x : Nat) => three 2) 5 10 1 fun (x : Nat) => PD.mk 3 915).getD a 0), AV.int IntKind.i64 0]) ([]), .ret (AV.agg [AV.sl 2 3 fun (i : Nat) => AV.agg [AV.int IntKind.i64 ((fun (x : Nat) => three 2) i).lo, AV.int IntKind.i64 ((fun (x : Nat) => three 2) i).hi], AV.int IntKind.i64 5, AV.int IntKind.i64 10, AV.sl 2 1 fun (i : Nat) => AV.agg [AV.int IntKind.i64 ((fun (x : Nat) => PD.mk 3 916) i).lo, AV.int IntKind.i64 ((fun (x : Nat) => PD.mk 3 916) i).hi]]) ([]), .ret (AV.tup [AV.int IntKind.i64 0, AV.sl 1 3 fun (a : Nat) => AV.int IntKind.i64 ((r19.v1 3 (fun (x : Nat) => three 2) 5 10 1 fun (x : Nat) => PD.mk 3 916).getD a 0), AV.int IntKind.i64 0]) ([]), .ret (AV.agg [AV.sl 2 3 fun (i : Nat) => AV.agg [AV.int IntKind.i64 ((fun (x : Nat) => three 1) i).lo, AV.int IntKind.i64 ((fun (x : Nat) => three 1) i).hi], AV.int IntKind.i64 5, AV.int IntKind.i64 10, AV.sl 2 1 fun (i : Nat) => AV.agg [AV.int IntKind.i64 ((fun (x : Nat) => PD.mk 3 915) i).lo, AV.int IntKind.i64 ((fun (x : Nat) => PD.mk 3 915) i).hi]]) ([]), .ret (AV.tup [AV.bool (r18.v0 3 (fun (x : Nat) => three 1) 5 10 1 fun (x : Nat) => PD.mk 3 915), AV.int IntKind.i64 0]) ([]), .fret ([AV.sl 1 3 fun (i : Nat) => AV.int IntKind.i64 ([300, 300, 300].getD i (Int.ofNat 0)), AV.agg [AV.int IntKind.i64 5, AV.int IntKind.i64 10], AV.sl 2 1 fun (i : Nat) => ([PD.mk 3 915].getD i default).av]) ([]) (AV.tup [AV.int IntKind.i64 1, AV.int IntKind.i64 0]) ([]), .ret (AV.agg [AV.sl 2 3 fun (i : Nat) => AV.agg [AV.int IntKind.i64 ((fun (x : Nat) => three 1) i).lo, AV.int IntKind.i64 ((fun (x : Nat) => three 1) i).hi], AV.int IntKind.i64 5, AV.int IntKind.i64 10, AV.sl 2 1 fun (i : Nat) => AV.agg [AV.int IntKind.i64 ((fun (x : Nat) => PD.mk 3 915) i).lo, AV.int IntKind.i64 ((fun (x : Nat) => PD.mk 3 915) i).hi]]) ([]), .ret (AV.tup [AV.sl 1 2 fun (a : Nat) => AV.int IntKind.i64 ((r22.v0 3 (fun (x : Nat) => three 1) 5 10 1 (fun (x : Nat) => PD.mk 3 915) 3 fun (i : Nat) => (300 :: (fun (x : List Int) => 300 :: x) ((fun (x : List Int) => 300 :: x) [])).getD i 0).getD a 0), AV.int IntKind.i64 0]) ([]), .ret (AV.agg [AV.sl 2 3 fun (i : Nat) => AV.agg [AV.int IntKind.i64 ((fun (x : Nat) => three 1) i).lo, AV.int IntKind.i64 ((fun (x : Nat) => three 1) i).hi], AV.int IntKind.i64 5, AV.int IntKind.i64 10, AV.sl 2 1 fun (i : Nat) => AV.agg [AV.int IntKind.i64 ((fun (x : Nat) => PD.mk 3 915) i).lo, AV.int IntKind.i64 ((fun (x : Nat) => PD.mk 3 915) i).hi]]) ([]), .ret (AV.tup [AV.bool (r23.v0 3 (fun (x : Nat) => three 1) 5 10 1 (fun (x : Nat) => PD.mk 3 915) 3 (fun (i : Nat) => (300 :: (fun (x : List Int) => 300 :: x) ((fun (x : List Int) => 300 :: x) [])).getD i 0) 2 fun (i : Nat) => (r22.v0 3 (fun (x : Nat) => three 1) 5 10 1 (fun (x : Nat) => PD.mk 3 915) 3 fun (i : Nat) => (300 :: (fun (x : List Int) => 300 :: x) ((fun (x : List Int) => 300 :: x) [])).getD i 0).getD i 0), AV.int IntKind.i64 0]) ([]), .ret (AV.agg [AV.sl 2 3 fun (i : Nat) => AV.agg [AV.int IntKind.i64 ((fun (x : Nat) => three 1) i).lo, AV.int IntKind.i64 ((fun (x : Nat) => three 1) i).hi], AV.int IntKind.i64 5, AV.int IntKind.i64 10, AV.sl 2 1 fun (i : Nat) => AV.agg [AV.int IntKind.i64 ((fun (x : Nat) => PD.mk 3 915) i).lo, AV.int IntKind.i64 ((fun (x : Nat) => PD.mk 3 915) i).hi]]) ([]), .ret (AV.tup [AV.agg [AV.int IntKind.i64 608, AV.int IntKind.i64 622], AV.int IntKind.i64 0]) ([]), .ret (AV.tup [AV.agg [AV.sl 2 2 fun (i : Nat) => AV.agg [AV.int IntKind.i64 (ofG i).lo, AV.int IntKind.i64 (ofG i).hi], AV.int IntKind.i64 5, AV.int IntKind.i64 10, AV.sl 2 1 fun (i : Nat) => AV.agg [AV.int IntKind.i64 ((fun (x : Nat) => PD.mk 2 600) i).lo, AV.int IntKind.i64 ((fun (x : Nat) => PD.mk 2 600) i).hi]], AV.int IntKind.i64 0]) ([AObj.var (AV.agg [AV.int IntKind.i64 608, AV.int IntKind.i64 622])]), .b true, .b true, .b true, .b true, .b true, .b true, .ret (AV.bool (r21.v 3 (fun (i : Nat) => (r19.v1 3 (fun (x : Nat) => three 2) 5 10 1 fun (x : Nat) => PD.mk 3 915).getD i 0) 3 fun (i : Nat) => (302 :: (fun (x : List Int) => 302 :: x) ((fun (x : List Int) => 302 :: x) [])).getD i 0)) (r11.h0), .b true, .b true, .b true, .b true, .b true, .b true, .b true, .b true, .b true, .b true, .ret (AV.bool (r21.v 3 (fun (i : Nat) => (r19.v1 3 (fun (x : Nat) => three 2) 5 10 1 fun (x : Nat) => PD.mk 3 916).getD i 0) 3 fun (i : Nat) => (298 :: (fun (x : List Int) => 298 :: x) ((fun (x : List Int) => 298 :: x) [])).getD i 0)) (r11.h0), .b true, .b true, .b true, .b true, .b true, .b true, .b true, .b true, .b true, .b true, .b true, .b true, .b true, .b true, .b true, .b true, .b true, .b true, .ret (AV.bool (r21.v 2 (fun (i : Nat) => (r22.v0 3 (fun (x : Nat) => three 1) 5 10 1 (fun (x : Nat) => PD.mk 3 915) 3 fun (i : Nat) => (300 :: (fun (x : List Int) => 300 :: x) ((fun (x : List Int) => 300 :: x) [])).getD i 0).getD i 0) 2 fun (i : Nat) => (8 :: (fun (x : List Int) => 7 :: x) []).getD i 0)) (r11.h0), .b true, .b true, .b true, .b true, .b true, .b true, .b true, .b true, .b true, .b true, .b true, .b true, .b true, .b true, .b true, .b true, .b true, .b true, .b true, .b true, .b true, .b true, .b true, .b true, .b true, .b true, .b true, .b true, .b true, .b true, .b true, .b true, .b true, .b true, .b true, .b true, .b true, .b true, .b true, .b true, .b true, .ret (AV.agg [AV.sl 2 3 fun (i : Nat) => AV.agg [AV.int IntKind.i64 ((fun (x : Nat) => three 0) i).lo, AV.int IntKind.i64 ((fun (x : Nat) => three 0) i).hi], AV.int IntKind.i64 5, AV.int IntKind.i64 10, AV.sl 2 1 fun (i : Nat) => AV.agg [AV.int IntKind.i64 ((fun (x : Nat) => PD.mk 3 1) i).lo, AV.int IntKind.i64 ((fun (x : Nat) => PD.mk 3 1) i).hi]]) (r11.h0), .b true, .ret (AV.int IntKind.i64 0) (r11.h0), .b true, .b true] (by simp) (by simp) (kmp (by kernel_rfl) (And.intro (c31 (2) (915) ([])) (And.intro (r19 (3) (fun (x : Nat) => three 2) (show (3 : Nat) ≤ (9223372036854775807 : Nat) by first | decide | exact Int.NonNeg.mk _) (5) (10) (1) (fun (x : Nat) => PD.mk 3 915) (show (1 : Nat) ≤ (30 : Nat) by first | decide | exact Int.NonNeg.mk _) ([])) (And.intro (c31 (2) (916) ([])) (And.intro (r19 (3) (fun (x : Nat) => three 2) (show (3 : Nat) ≤ (9223372036854775807 : Nat) by first | decide | exact Int.NonNeg.mk _) (5) (10) (1) (fun (x : Nat) => PD.mk 3 916) (show (1 : Nat) ≤ (30 : Nat) by first | decide | exact Int.NonNeg.mk _) ([])) (And.intro (c31 (1) (915) ([])) (And.intro (r18 (3) (fun (x : Nat) => three 1) (show (3 : Nat) ≤ (9223372036854775807 : Nat) by first | decide | exact Int.NonNeg.mk _) (5) (10) (1) (fun (x : Nat) => PD.mk 3 915) (show (1 : Nat) ≤ (30 : Nat) by first | decide | exact Int.NonNeg.mk _) ([])) (And.intro (show Weak 0 ([AV.sl 1 3 fun (a : Nat) => (Col.ofList [AV.int IntKind.i64 300, AV.int IntKind.i64 300, AV.int IntKind.i64 300]).get a, AV.agg [AV.int IntKind.i64 5, AV.int IntKind.i64 10], AV.sl 2 1 fun (a : Nat) => (Col.ofList [AV.agg [AV.int IntKind.i64 3, AV.int IntKind.i64 915]]).get a]) ([]) ([AV.sl 1 3 fun (i : Nat) => AV.int IntKind.i64 ([300, 300, 300].getD i (Int.ofNat 0)), AV.agg [AV.int IntKind.i64 5, AV.int IntKind.i64 10], AV.sl 2 1 fun (i : Nat) => ([PD.mk 3 915].getD i default).av]) ([]) from Weak.same (And.intro (same_ints [300, 300, 300] rfl rfl) (And.intro (Or.inl rfl) (And.intro (same_recs (av := PD.av) [PD.mk 3 915] rfl (fun i hi => by rcases i with _ | _ | _ | _ | _ | _ | _ | _ | i <;> first | rfl | (exact absurd hi (by omega)))) trivial)))) (And.intro (r27 (3) (fun (i : Nat) => [300, 300, 300].getD i 0) (show (3 : Nat) ≤ (30 : Nat) by first | decide | exact Int.NonNeg.mk _) (5) (10) (1) (fun (i : Nat) => [PD.mk 3 915].getD i default) (show (1 : Nat) ≤ (30 : Nat) by first | decide | exact Int.NonNeg.mk _) ([])) (And.intro (c31 (1) (915) ([])) (And.intro (r22 (3) (fun (x : Nat) => three 1) (show (3 : Nat) ≤ (9223372036854775807 : Nat) by first | decide | exact Int.NonNeg.mk _) (5) (10) (1) (fun (x : Nat) => PD.mk 3 915) (show (1 : Nat) ≤ (30 : Nat) by first | decide | exact Int.NonNeg.mk _) (3) (fun (i : Nat) => (300 :: (fun (x : List Int) => 300 :: x) ((fun (x : List Int) => 300 :: x) [])).getD i 0) (show (3 : Nat) ≤ (9223372036854775807 : Nat) by first | decide | exact Int.NonNeg.mk _) ([])) (And.intro (c31 (1) (915) ([])) (And.intro (r23 (3) (fun (x : Nat) => three 1) (show (3 : Nat) ≤ (9223372036854775807 : Nat) by first | decide | exact Int.NonNeg.mk _) (5) (10) (1) (fun (x : Nat) => PD.mk 3 915) (show (1 : Nat) ≤ (30 : Nat) by first | decide | exact Int.NonNeg.mk _) (3) (fun (i : Nat) => (300 :: (fun (x : List Int) => 300 :: x) ((fun (x : List Int) => 300 :: x) [])).getD i 0) (show (3 : Nat) ≤ (9223372036854775807 : Nat) by first | decide | exact Int.NonNeg.mk _) (2) (fun (i : Nat) => (r22.v0 3 (fun (x : Nat) => three 1) 5 10 1 (fun (x : Nat) => PD.mk 3 915) 3 fun (i : Nat) => (300 :: (fun (x : List Int) => 300 :: x) ((fun (x : List Int) => 300 :: x) [])).getD i 0).getD i 0) (show (2 : Nat) ≤ (9223372036854775807 : Nat) by first | decide | exact Int.NonNeg.mk _) ([])) (And.intro (c31 (1) (915) ([])) (And.intro (r13 (3) (fun (x : Nat) => three 1) (show (3 : Nat) ≤ (9223372036854775807 : Nat) by first | decide | exact Int.NonNeg.mk _) (5) (10) (1) (fun (x : Nat) => PD.mk 3 915) (show (1 : Nat) ≤ (9223372036854775807 : Nat) by first | decide | exact Int.NonNeg.mk _) (0) (2) ([])) (And.intro (c32 ([AObj.var (AV.agg [AV.int IntKind.i64 608, AV.int IntKind.i64 622])])) (And.intro (rfl : true = true) (And.intro (rfl : true = true) (And.intro (rfl : true = true) (And.intro (rfl : true = true) (And.intro (rfl : true = true) (And.intro (rfl : true = true) (And.intro (r21 (3) (fun (i : Nat) => (r19.v1 3 (fun (x : Nat) => three 2) 5 10 1 fun (x : Nat) => PD.mk 3 915).getD i 0) (3) (fun (i : Nat) => (302 :: (fun (x : List Int) => 302 :: x) ((fun (x : List Int) => 302 :: x) [])).getD i 0) (show (3 : Nat) ≤ (9223372036854775807 : Nat) by first | decide | exact Int.NonNeg.mk _) (r11.h0)) (And.intro (rfl : true = true) (And.intro (rfl : true = true) (And.intro (rfl : true = true) (And.intro (rfl : true = true) (And.intro (rfl : true = true) (And.intro (rfl : true = true) (And.intro (rfl : true = true) (And.intro (rfl : true = true) (And.intro (rfl : true = true) (And.intro (rfl : true = true) (And.intro (r21 (3) (fun (i : Nat) => (r19.v1 3 (fun (x : Nat) => three 2) 5 10 1 fun (x : Nat) => PD.mk 3 916).getD i 0) (3) (fun (i : Nat) => (298 :: (fun (x : List Int) => 298 :: x) ((fun (x : List Int) => 298 :: x) [])).getD i 0) (show (3 : Nat) ≤ (9223372036854775807 : Nat) by first | decide | exact Int.NonNeg.mk _) (r11.h0)) (And.intro (rfl : true = true) (And.intro (rfl : true = true) (And.intro (rfl : true = true) (And.intro (rfl : true = true) (And.intro (rfl : true = true) (And.intro (rfl : true = true) (And.intro (rfl : true = true) (And.intro (rfl : true = true) (And.intro (rfl : true = true) (And.intro (rfl : true = true) (And.intro (rfl : true = true) (And.intro (rfl : true = true) (And.intro (rfl : true = true) (And.intro (rfl : true = true) (And.intro (rfl : true = true) (And.intro (rfl : true = true) (And.intro (rfl : true = true) (And.intro (rfl : true = true) (And.intro (r21 (2) (fun (i : Nat) => (r22.v0 3 (fun (x : Nat) => three 1) 5 10 1 (fun (x : Nat) => PD.mk 3 915) 3 fun (i : Nat) => (300 :: (fun (x : List Int) => 300 :: x) ((fun (x : List Int) => 300 :: x) [])).getD i 0).getD i 0) (2) (fun (i : Nat) => (8 :: (fun (x : List Int) => 7 :: x) []).getD i 0) (show (2 : Nat) ≤ (9223372036854775807 : Nat) by first | decide | exact Int.NonNeg.mk _) (r11.h0)) (And.intro (rfl : true = true) (And.intro (rfl : true = true) (And.intro (rfl : true = true) (And.intro (rfl : true = true) (And.intro (rfl : true = true) (And.intro (rfl : true = true) (And.intro (rfl : true = true) (And.intro (rfl : true = true) (And.intro (rfl : true = true) (And.intro (rfl : true = true) (And.intro (rfl : true = true) (And.intro (rfl : true = true) (And.intro (rfl : true = true) (And.intro (rfl : true = true) (And.intro (rfl : true = true) (And.intro (rfl : true = true) (And.intro (rfl : true = true) (And.intro (rfl : true = true) (And.intro (rfl : true = true) (And.intro (rfl : true = true) (And.intro (rfl : true = true) (And.intro (rfl : true = true) (And.intro (rfl : true = true) (And.intro (rfl : true = true) (And.intro (And.intro (show (0 : Int) ≤ (1 : Int) by first | decide | exact Int.NonNeg.mk _) (show (1 : Int) < (2 : Int) by first | decide | exact Int.NonNeg.mk _)) (And.intro (rfl : true = true) (And.intro (rfl : true = true) (And.intro (rfl : true = true) (And.intro (rfl : true = true) (And.intro (rfl : true = true) (And.intro (rfl : true = true) (And.intro (rfl : true = true) (And.intro (rfl : true = true) (And.intro (rfl : true = true) (And.intro (rfl : true = true) (And.intro (rfl : true = true) (And.intro (rfl : true = true) (And.intro (And.intro (show (0 : Int) ≤ (0 : Int) by first | decide | exact Int.NonNeg.mk _) (show (0 : Int) < (1 : Int) by first | decide | exact Int.NonNeg.mk _)) (And.intro (rfl : true = true) (And.intro (rfl : true = true) (And.intro (rfl : true = true) (And.intro (rfl : true = true) (And.intro (rfl : true = true) (And.intro (c31 (0) (1) (r11.h0)) (And.intro (rfl : true = true) (And.intro (r16 (3) (fun (x : Nat) => three 0) (show (3 : Nat) ≤ (9223372036854775807 : Nat) by first | decide | exact Int.NonNeg.mk _) (5) (10) (1) (fun (x : Nat) => PD.mk 3 1) (show (1 : Nat) ≤ (9223372036854775807 : Nat) by first | decide | exact Int.NonNeg.mk _) (r11.h0)) (And.intro (rfl : true = true) (And.intro (rfl : true = true) (And.intro (show (AV.bool (0 == 0)) = ((AV.bool r11.v)) by first | (simp only [r11.v, cond_true, cond_false]; done) | (try unfold r11.v; try rfl; done) | rfl) trivial)))))))))))))))))))))))))))))))))))))))))))))))))))))))))))))))))))))))))))))))))))))))))))))))))))))) h

end Go.Proofs.Ytjdakdjgkpfjkaa

/- The examples of the chapter hold. Conditions: none. -/
open Go
namespace Go.Proofs.Ytjdakdjgkpfjkaa
theorem r11t (h : AHeap) : Ret Try.prog 11 ([]) h (.bool true) h := r11 h
end Go.Proofs.Ytjdakdjgkpfjkaa

/- Spans of a valid run, in plain words. Conditions: none. -/
open Go
namespace Go.Proofs.Ytjdakdjgkpfjkaa
set_option linter.unusedVariables false
set_option linter.unusedSimpArgs false
variable {n : Nat} {g : Nat → PD} {j1 j2 : Int} {k : Nat} {p : Nat → PD}

theorem L17_run (u w : Nat) (hw : w ≤ 512) (hu : u ≤ w) (a0 b0 : Int) (ha : 0 ≤ a0 ∧ a0 ≤ 1000000) (hb : 0 ≤ b0 ∧ b0 ≤ 1000000) (hg : ∀ i, u ≤ i → i < w → 0 ≤ (g i).lo ∧ (g i).lo ≤ 1000000 ∧ 0 ≤ (g i).hi ∧ (g i).hi ≤ 1000000) :
    ∀ m c, c ≤ w - u → w - u - c < m → L17a.N g w m ((u + c : Nat) : Int) (a0 + sumB (fun i => (g i).lo) u c) (b0 + sumB (fun i => (g i).hi) u c) = .e0 (a0 + sumB (fun i => (g i).lo) u (w - u)) (b0 + sumB (fun i => (g i).hi) u (w - u)) := by
  intro m
  induction m with
  | zero => intro c _ h; omega
  | succ m ih =>
    intro c hc hm
    simp only [L17a.N, Int.toNat_natCast]
    by_cases h : c < w - u
    · rw [decide_eq_true (show ((u + c : Nat) : Int) < (w : Int) by omega), wrap_succ (n := w) (by omega) (show u + c < w by omega)]
      simp only [cond_true]
      have b1 := sumB_bd (f := fun i => (g i).lo) (u := u) (b := 1000000) c fun i a b => ⟨(hg i a (by omega)).1, (hg i a (by omega)).2.1⟩
      have b2 := sumB_bd (f := fun i => (g i).hi) (u := u) (b := 1000000) c fun i a b => ⟨(hg i a (by omega)).2.2.1, (hg i a (by omega)).2.2.2⟩
      have b3 := hg (u + c) (by omega) (by omega)
      rw [i64_small (by omega), i64_small (by omega)]
      have := ih (c + 1) h (by omega)
      simp only [sumB, ← Int.add_assoc] at this
      exact this
    · obtain rfl : c = w - u := by omega
      rw [decide_eq_false (by omega)]
      rfl

theorem jn_bd2 (h : ROk n g j1 j2 k p) {u w : Nat} (hu : u < w) (hw : w ≤ n) {j : Int} (h0 : 0 ≤ j) (h1 : j ≤ 1000) : 0 ≤ jn n u w ∧ jn n u w ≤ 512 ∧ 0 ≤ jn n u w * j ∧ jn n u w * j ≤ 512000 := by
  have hn := h.le
  have a : 0 ≤ jn n u w ∧ jn n u w ≤ 512 := by unfold jn; split <;> omega
  have b := Int.mul_nonneg a.1 h0
  have c := Int.mul_le_mul a.2 h1 h0 (by omega)
  omega

theorem r17_eq (h : ROk n g j1 j2 k p) {u w : Nat} (hu : u < w) (hw : w ≤ n) :
    r17.v0 n g j1 j2 u w = jn n u w * j1 + sLo g u w ∧ r17.v1 n g j1 j2 u w = jn n u w * j2 + sHi g u w := by
  have hn := h.le
  have hg : ∀ i, u ≤ i → i < w → 0 ≤ (g i).lo ∧ (g i).lo ≤ 1000000 ∧ 0 ≤ (g i).hi ∧ (g i).hi ≤ 1000000 := fun i _ hi => by
    have := h.l1 i (by omega); have := h.l2 i (by omega); have := h.l3 i (by omega); omega
  have q1 := jn_bd2 h hu hw h.ja (by have := h.jb; have := h.jc; omega)
  have q2 := jn_bd2 h hu hw (j := j2) (by have := h.ja; have := h.jb; omega) h.jc
  have run := L17_run (g := g) u w (by omega) (by omega) (jn n u w * j1) (jn n u w * j2) (by omega) (by omega) hg (w - u + 1) 0 (by omega) (by omega)
  have run' : L17a.run g w u (jn n u w * j1) (jn n u w * j2) = .e0 (jn n u w * j1 + sLo g u w) (jn n u w * j2 + sHi g u w) := by
    unfold L17a.run sLo sHi
    rw [show ((w : Int) - (u : Int)).toNat = w - u by omega]
    simpa [sumB] using run
  unfold r17.v0 r17.v1
  cases hq : ((w : Int) == (n : Int)) with
  | true =>
    have hq' : w = n := by have := eq_of_beq hq; omega
    have e : IntKind.i64.wrap (IntKind.i64.wrap ((w : Int) - u) - 1) = jn n u w := by
      rw [i64_small (x := (w : Int) - u) (by omega), i64_small (by omega)]; unfold jn; rw [if_pos hq']
    simp only [cond_true, e]
    rw [i64_small (x := jn n u w * j1) (by omega), i64_small (x := jn n u w * j2) (by omega), run']
    exact ⟨rfl, rfl⟩
  | false =>
    have hq' : w ≠ n := fun e => by subst e; simp at hq
    have e : IntKind.i64.wrap ((w : Int) - u) = jn n u w := by
      rw [i64_small (by omega)]; unfold jn; rw [if_neg hq']; omega
    simp only [cond_false, e]
    rw [i64_small (x := jn n u w * j1) (by omega), i64_small (x := jn n u w * j2) (by omega), run']
    exact ⟨rfl, rfl⟩

theorem span_eq (h : ROk n g j1 j2 k p) {u w : Int} (h0 : ¬ u < 0) (h1 : ¬ w > (n : Int)) (h2 : ¬ u ≥ w) :
    IntKind.i64.wrap (r33.v0 n g u w + IntKind.i64.wrap (r33.v2 n g u w * j1)) = r17.v0 n g j1 j2 u w ∧
    IntKind.i64.wrap (r33.v1 n g u w + IntKind.i64.wrap (r33.v2 n g u w * j2)) = r17.v1 n g j1 j2 u w := by
  obtain ⟨u, rfl⟩ : ∃ u' : Nat, u = u' := ⟨u.toNat, by omega⟩
  obtain ⟨w, rfl⟩ : ∃ w' : Nat, w = w' := ⟨w.toNat, by omega⟩
  have hu : u < w := by omega
  have hw : w ≤ n := by omega
  obtain ⟨e1, e2, e3⟩ := r33_eq h (u := u) (w := w) (by omega) hw
  obtain ⟨f1, f2⟩ := r17_eq h hu hw
  have hn := h.le
  have hg : ∀ i, u ≤ i → i < w → 0 ≤ (g i).lo ∧ (g i).lo ≤ 1000000 ∧ 0 ≤ (g i).hi ∧ (g i).hi ≤ 1000000 := fun i _ hi => by
    have := h.l1 i (by omega); have := h.l2 i (by omega); have := h.l3 i (by omega); omega
  have q1 := jn_bd2 h hu hw h.ja (by have := h.jb; have := h.jc; omega)
  have q2 := jn_bd2 h hu hw (j := j2) (by have := h.ja; have := h.jb; omega) h.jc
  have b1 := sumB_bd (f := fun i => (g i).lo) (u := u) (b := 1000000) (w - u) fun i a b => ⟨(hg i a (by omega)).1, (hg i a (by omega)).2.1⟩
  have b2 := sumB_bd (f := fun i => (g i).hi) (u := u) (b := 1000000) (w - u) fun i a b => ⟨(hg i a (by omega)).2.2.1, (hg i a (by omega)).2.2.2⟩
  rw [e1, e2, e3, f1, f2]
  have s1 : sLo g u w = sumB (fun i => (g i).lo) u (w - u) := rfl
  have s2 : sHi g u w = sumB (fun i => (g i).hi) u (w - u) := rfl
  rw [i64_small (x := jn n u w * j1) (by omega), i64_small (x := jn n u w * j2) (by omega), i64_small (by omega), i64_small (by omega)]
  omega

end Go.Proofs.Ytjdakdjgkpfjkaa

/- The reference's Failing of a valid run, in plain words. Conditions: none. -/
open Go
namespace Go.Proofs.Ytjdakdjgkpfjkaa
set_option linter.unusedVariables false
set_option linter.unusedSimpArgs false
variable {n : Nat} {g : Nat → PD} {j1 j2 : Int} {k : Nat} {p : Nat → PD}

theorem outL_cons (b : Bool) (g : Nat → PD) {u w : Nat} (h : u < w) : outL b g u w = (bif b then (g u).hi else (g u).lo) :: outL b g (u + 1) w := by
  unfold outL
  rw [show w - u = (w - (u + 1)) + 1 by omega, List.range'_succ]
  rfl
theorem outL_nil (b : Bool) (g : Nat → PD) (u : Nat) : outL b g u u = [] := by
  unfold outL
  rw [show u - u = 0 by omega]
  rfl

theorem L20ab_run (i : Int) (w : Nat) (hw : w ≤ 512) (e : r43.v1 p i = w) : ∀ m (c v : Nat) l, c ≤ w → w - c < m → ∃ v', L20ab.N g p i m v l (c : Int) = .e0 v' (l ++ outL true g c w) := by
  intro m
  induction m with
  | zero => intro c v l _ h; omega
  | succ m ih =>
    intro c v l hc hm
    simp only [L20ab.N, e, Int.toNat_natCast]
    by_cases h : c < w
    · rw [decide_eq_true (show (c : Int) < (w : Int) by omega), wrap_succ (n := w) (by omega) h, outL_cons true g h]
      obtain ⟨v', q⟩ := ih (c + 1) (v + 1) (l ++ [(g c).hi]) h (by omega)
      exact ⟨v', by simp only [cond_true]; rw [q]; simp⟩
    · obtain rfl : c = w := by omega
      rw [decide_eq_false (by omega), outL_nil]
      exact ⟨v, by simp⟩
theorem L20abx_run (i : Int) (w : Nat) (hw : w ≤ 512) (e : r43.v1 p i = w) : ∀ m (c v : Nat) l, c ≤ w → w - c < m → ∃ v', L20abx.N g p i m v l (c : Int) = .e0 v' (l ++ outL false g c w) := by
  intro m
  induction m with
  | zero => intro c v l _ h; omega
  | succ m ih =>
    intro c v l hc hm
    simp only [L20abx.N, e, Int.toNat_natCast]
    by_cases h : c < w
    · rw [decide_eq_true (show (c : Int) < (w : Int) by omega), wrap_succ (n := w) (by omega) h, outL_cons false g h]
      obtain ⟨v', q⟩ := ih (c + 1) (v + 1) (l ++ [(g c).lo]) h (by omega)
      exact ⟨v', by simp only [cond_true]; rw [q]; simp⟩
    · obtain rfl : c = w := by omega
      rw [decide_eq_false (by omega), outL_nil]
      exact ⟨v, by simp⟩

theorem L20_cases (h : ROk n g j1 j2 k p) (hk : k ≤ 30) : ∀ m (c : Nat), c ≤ k → k - c < m → (∀ l, l < c → long n g j1 p l = false ∧ short n g j2 p l = false) →
    ((∀ i, i < k → long n g j1 p i = false ∧ short n g j2 p i = false) ∧ L20a.N n g j1 j2 k p m (c : Int) = .e1) ∨
    ∃ i v, i < k ∧ (long n g j1 p i || short n g j2 p i) = true ∧ (∀ l, l < i → long n g j1 p l = false ∧ short n g j2 p l = false) ∧
      L20a.N n g j1 j2 k p m (c : Int) = .e0 i v (outL (long n g j1 p i) g (pa p i) (pb p i)) := by
  intro m
  induction m with
  | zero => intro c _ h; omega
  | succ m ih =>
    intro c hc hm hb
    simp only [L20a.N]
    by_cases hlt : c < k
    · rw [decide_eq_true (show (c : Int) < (k : Int) by omega), wrap_succ (n := k) (by omega) hlt]
      simp only [cond_true]
      obtain ⟨e0, e1, e2, e3⟩ := r43_eq h hk hlt
      have hab := pab h.pl hlt
      have hn := h.le
      rw [e0, e1, e2, e3]
      obtain ⟨f0, f1⟩ := r44_eq h (u := pa p c) (w := pb p c) (by omega) (by omega)
      rw [f0, f1]
      have hg : ∀ i, pa p c ≤ i → i < pb p c → 0 ≤ (g i).lo ∧ (g i).lo ≤ 1000000 ∧ 0 ≤ (g i).hi ∧ (g i).hi ≤ 1000000 := fun i _ hi => by
        have := h.l1 i (by omega); have := h.l2 i (by omega); have := h.l3 i (by omega); omega
      have q1 := jn_bd2 h (u := pa p c) (w := pb p c) (by omega) (by omega) h.ja (by have := h.jb; have := h.jc; omega)
      have q2 := jn_bd2 h (u := pa p c) (w := pb p c) (by omega) (by omega) (j := j2) (by have := h.ja; have := h.jb; omega) h.jc
      have b1 := sumB_bd (f := fun i => (g i).lo) (u := pa p c) (b := 1000000) (pb p c - pa p c) fun i a b => ⟨(hg i a (by omega)).1, (hg i a (by omega)).2.1⟩
      have b2 := sumB_bd (f := fun i => (g i).hi) (u := pa p c) (b := 1000000) (pb p c - pa p c) fun i a b => ⟨(hg i a (by omega)).2.2.1, (hg i a (by omega)).2.2.2⟩
      have s1 : sLo g (pa p c) (pb p c) = sumB (fun i => (g i).lo) (pa p c) (pb p c - pa p c) := rfl
      have s2 : sHi g (pa p c) (pb p c) = sumB (fun i => (g i).hi) (pa p c) (pb p c - pa p c) := rfl
      rw [i64_small (x := jn n (pa p c) (pb p c) * j1) (by omega), i64_small (x := jn n (pa p c) (pb p c) * j2) (by omega), i64_small (by omega), i64_small (by omega)]
      cases hL : long n g j1 p c with
      | true =>
        have hL' := hL
        unfold long at hL'
        rw [hL']
        simp only [cond_true]
        obtain ⟨v', q⟩ := L20ab_run (g := g) (p := p) c (pb p c) (by omega) e1 (pb p c - pa p c + 1) (pa p c) 0 [] (by omega) (by omega)
        have q' : L20ab.run g p c 0 [] (pa p c) = .e0 v' (outL true g (pa p c) (pb p c)) := by
          unfold L20ab.run
          rw [e1, show ((pb p c : Int) - (pa p c : Int)).toNat = pb p c - pa p c by omega]
          simpa using q
        rw [q']
        exact .inr ⟨c, v', hlt, by rw [hL]; rfl, hb, by rw [hL]⟩
      | false =>
        have hL' := hL
        unfold long at hL'
        rw [hL']
        simp only [cond_false]
        cases hS : short n g j2 p c with
        | true =>
          have hS' := hS
          unfold short at hS'
          have hS' := of_decide_eq_true hS'
          rw [decide_eq_false (by omega)]
          simp only [cond_false]
          obtain ⟨v', q⟩ := L20abx_run (g := g) (p := p) c (pb p c) (by omega) e1 (pb p c - pa p c + 1) (pa p c) 0 [] (by omega) (by omega)
          have q' : L20abx.run g p c 0 [] (pa p c) = .e0 v' (outL false g (pa p c) (pb p c)) := by
            unfold L20abx.run
            rw [e1, show ((pb p c : Int) - (pa p c : Int)).toNat = pb p c - pa p c by omega]
            simpa using q
          rw [q']
          exact .inr ⟨c, v', hlt, by rw [hS]; simp, hb, by rw [hL]⟩
        | false =>
          have hS' := hS
          unfold short at hS'
          have hS' := of_decide_eq_false hS'
          rw [decide_eq_true (by omega)]
          simp only [cond_true]
          exact ih (c + 1) hlt (by omega) fun l hl => by
            by_cases e : l = c
            · subst e; exact ⟨hL, hS⟩
            · exact hb l (by omega)
    · obtain rfl : c = k := by omega
      rw [decide_eq_false (by omega)]
      exact .inl ⟨hb, rfl⟩

theorem r20_cases (h : ROk n g j1 j2 k p) (hk : k ≤ 30) :
    ((∀ i, i < k → long n g j1 p i = false ∧ short n g j2 p i = false) ∧ r20.v0 n g j1 j2 k p = -1 ∧ r20.v1 n g j1 j2 k p = []) ∨
    ∃ i, i < k ∧ (long n g j1 p i || short n g j2 p i) = true ∧ (∀ l, l < i → long n g j1 p l = false ∧ short n g j2 p l = false) ∧
      r20.v0 n g j1 j2 k p = i ∧ r20.v1 n g j1 j2 k p = outL (long n g j1 p i) g (pa p i) (pb p i) := by
  unfold r20.v0 r20.v1 L20a.run
  have e0 : ((k : Int) - (0 : Int)).toNat + 1 = k + 1 := by omega
  rcases L20_cases h hk (k + 1) 0 (Nat.zero_le _) (by omega) (fun l hl => by omega) with ⟨a1, a2⟩ | ⟨i, v, a1, a2, a3, a4⟩
  · rw [e0, show (0 : Int) = ((0 : Nat) : Int) from rfl, a2]; exact .inl ⟨a1, rfl, rfl⟩
  · rw [e0, show (0 : Int) = ((0 : Nat) : Int) from rfl, a4]; exact .inr ⟨i, a1, a2, a3, rfl, rfl⟩

/-- The lengths of what Failing hands back. -/
theorem outL_length (b : Bool) (g : Nat → PD) (u w : Nat) : (outL b g u w).length = w - u := by simp [outL]
theorem bd19 (h : ROk n g j1 j2 k p) (hk : k ≤ 30) (hz : r16.v n g j1 j2 k p = 0) : (r19.v1 n g j1 j2 k p).length ≤ 512 := by
  rcases r19_cases h hk hz with ⟨_, _, e, _⟩ | ⟨i, hi, _, _, _, e, _⟩
  · rw [e]; simp
  · rw [e, outL_length]
    have := pab h.pl hi
    have := h.le
    omega
theorem bd19' (h : ROk n g j1 j2 k p) (hk : k ≤ 30) (hn : n ≤ 9223372036854775807) (hz : r15.v n g j1 j2 k p = 0) : (r19.v1 n g j1 j2 k p).length ≤ 512 :=
  bd19 h hk (by rw [← check_same hn (by omega)]; exact hz)
end Go.Proofs.Ytjdakdjgkpfjkaa

/- the law of parts that fail, walked. -/
open Go
namespace Go.Proofs.Ytjdakdjgkpfjkaa
set_option linter.unusedSimpArgs false
set_option linter.unusedVariables false
set_option maxHeartbeats 0
set_option maxRecDepth 100000
theorem ok18b {n : Nat} {g : Nat → PD} {j1 j2 : Int} {k : Nat} {p : Nat → PD} (h0 : (r18.v1 n g j1 j2 k p == 0) = true) (hn : n ≤ 9223372036854775807) (hk : k ≤ 30) : ROk n g j1 j2 k p := (bd18 h0 hn hk).1
theorem bd19x {n : Nat} {g : Nat → PD} {j1 j2 : Int} {k : Nat} {p : Nat → PD} (h2 : (r19.v2 n g j1 j2 k p == 0) = true) (h0 : (r18.v1 n g j1 j2 k p == 0) = true) (hn : n ≤ 9223372036854775807) (hk : k ≤ 30) : ((r19.v1 n g j1 j2 k p).length ≤ 512 ∧ n ≤ 512) ∧ IntKind.i64.wrap ((n : Int) - (r19.v1 n g j1 j2 k p).length) = (n : Int) - (r19.v1 n g j1 j2 k p).length ∧ ∀ (m : Nat) (f : Nat → Int), (pks n g m f).length = n := by
  obtain ⟨hr, hl, hz, _⟩ := bd18 h0 hn hk
  have : (r19.v1 n g j1 j2 k p).length ≤ 512 := by
    rcases r19_cases hr hk hz with ⟨_, _, e, _⟩ | ⟨i, hi, _, _, _, e, _⟩
    · rw [e]; simp
    · rw [e]
      have := pab hr.pl hi
      simp [outL]; omega
  exact ⟨⟨this, hl⟩, i64_small (by omega), fun m f => pks_len⟩
inductive L9a.O where
  | e0 (a0 : List Int)
noncomputable def L9a.T (n : Nat) (g : Nat → PD) (j1 : Int) (j2 : Int) (k : Nat) (p : Nat → PD) (V : Nat) (P : Nat) (l : Nat → Int) (u : Int) (i : Int) (xs : List Int) : List AV := mkT 124 [(2, AV.ptr 0 1 4 0 0), (6, ivs P l), (10, AV.int IntKind.i64 u), (11, AV.ms 1 V 1 0 n), (12, AV.int IntKind.i64 i)]
noncomputable def L9a.H (n : Nat) (g : Nat → PD) (j1 : Int) (j2 : Int) (k : Nat) (p : Nat → PD) (V : Nat) (P : Nat) (l : Nat → Int) (u : Int) (i : Int) (xs : List Int) : AHeap := [AObj.var (rn n g j1 j2 k p), AObj.row 1 V (Col.ints IntKind.i64 xs)]
def L9a.inv (n : Nat) (g : Nat → PD) (j1 : Int) (j2 : Int) (k : Nat) (p : Nat → PD) (V : Nat) (P : Nat) (l : Nat → Int) (u : Int) (i : Int) (xs : List Int) : Prop := (0 ≤ i ∧ i ≤ (↑P : Int)) ∧ xs.length = n
noncomputable def L9a.mu (n : Nat) (g : Nat → PD) (j1 : Int) (j2 : Int) (k : Nat) (p : Nat → PD) (V : Nat) (P : Nat) (l : Nat → Int) (u : Int) (i : Int) (xs : List Int) : Nat := ((↑P : Int) - i).toNat
noncomputable def L9a.E : L9a.O → Exit
  | .e0 a0 => Exit.exit 0
noncomputable def L9a.X (n : Nat) (g : Nat → PD) (j1 : Int) (j2 : Int) (k : Nat) (p : Nat → PD) (V : Nat) (P : Nat) (l : Nat → Int) (u : Int) : L9a.O → List AV
  | .e0 a0 => mkT 124 [(2, (AV.ptr 0 1 4 0 0)), (11, (AV.ms 1 V 1 0 n))]
noncomputable def L9a.XH (n : Nat) (g : Nat → PD) (j1 : Int) (j2 : Int) (k : Nat) (p : Nat → PD) (V : Nat) (P : Nat) (l : Nat → Int) (u : Int) : L9a.O → AHeap
  | .e0 a0 => ((AObj.var (AV.agg [AV.sl 2 n fun (i : Nat) => AV.agg [AV.int IntKind.i64 (g i).lo, AV.int IntKind.i64 (g i).hi], AV.int IntKind.i64 j1, AV.int IntKind.i64 j2, AV.sl 2 k fun (i : Nat) => AV.agg [AV.int IntKind.i64 (p i).lo, AV.int IntKind.i64 (p i).hi]])) :: ((AObj.row 1 (V) (Col.ints IntKind.i64 a0)) :: ([])))
noncomputable def L9a.N (P : Nat) (l : Nat → Int) (u : Int) : Nat → Int → (List Int) → L9a.O
  | 0, _, xs => .e0 xs
  | k_ + 1, i, xs => (bif decide (i < (↑P : Int)) then (L9a.N P l u k_ (IntKind.i64.wrap (i + 1)) (xs.set (0 + (IntKind.i64.wrap (u + i)).toNat) (l i.toNat))) else (.e0 (xs)))
noncomputable def L9a.run (P : Nat) (l : Nat → Int) (u : Int) (i : Int) (xs : List Int) : L9a.O := L9a.N P l u ((((↑P : Int) - i).toNat) + 1) i xs
def L9a.Next (n : Nat) (g : Nat → PD) (j1 : Int) (j2 : Int) (k : Nat) (p : Nat → PD) (V : Nat) (P : Nat) (l : Nat → Int) (u : Int) (k_ : Nat) (z_ : Int × (List Int)) (T_ : List AV) (h_ : AHeap) : Prop := LNextP (fun (z_ : Int × (List Int)) => L9a.T n g j1 j2 k p V P l u z_.1 z_.2) (fun (z_ : Int × (List Int)) => L9a.H n g j1 j2 k p V P l u z_.1 z_.2) (fun (z_ : Int × (List Int)) => L9a.inv n g j1 j2 k p V P l u z_.1 z_.2) (fun (z_ : Int × (List Int)) => L9a.mu n g j1 j2 k p V P l u z_.1 z_.2) (fun (k_ : Nat) (z_ : Int × (List Int)) => L9a.N P l u k_ z_.1 z_.2) k_ z_ T_ h_
def L9a.End (n : Nat) (g : Nat → PD) (j1 : Int) (j2 : Int) (k : Nat) (p : Nat → PD) (V : Nat) (P : Nat) (l : Nat → Int) (u : Int) (k_ : Nat) (z_ : Int × (List Int)) (e_ : Exit) (T_ : List AV) (h_ : AHeap) : Prop := LEndP (fun (z_ : Int × (List Int)) => L9a.H n g j1 j2 k p V P l u z_.1 z_.2) (fun (k_ : Nat) (z_ : Int × (List Int)) => L9a.N P l u k_ z_.1 z_.2) L9a.E (L9a.X n g j1 j2 k p V P l u) (L9a.XH n g j1 j2 k p V P l u) k_ z_ e_ T_ h_
theorem L9a.nx (n : Nat) (g : Nat → PD) (j1 : Int) (j2 : Int) (k : Nat) (p : Nat → PD) (V : Nat) (P : Nat) (l : Nat → Int) (u : Int) {k_ : Nat} {z_ : Int × (List Int)} {h_ : AHeap} (s_ : Int × (List Int)) (h1 : L9a.inv n g j1 j2 k p V P l u s_.1 s_.2) (h2 : L9a.mu n g j1 j2 k p V P l u s_.1 s_.2 < L9a.mu n g j1 j2 k p V P l u z_.1 z_.2) (h3 : L9a.N P l u k_ s_.1 s_.2 = L9a.N P l u (k_ + 1) z_.1 z_.2) (h4 : PopOk (L9a.H n g j1 j2 k p V P l u z_.1 z_.2) h_ (L9a.T n g j1 j2 k p V P l u s_.1 s_.2) (L9a.H n g j1 j2 k p V P l u s_.1 s_.2)) : LNextP (fun (z_ : Int × (List Int)) => L9a.T n g j1 j2 k p V P l u z_.1 z_.2) (fun (z_ : Int × (List Int)) => L9a.H n g j1 j2 k p V P l u z_.1 z_.2) (fun (z_ : Int × (List Int)) => L9a.inv n g j1 j2 k p V P l u z_.1 z_.2) (fun (z_ : Int × (List Int)) => L9a.mu n g j1 j2 k p V P l u z_.1 z_.2) (fun (k_ : Nat) (z_ : Int × (List Int)) => L9a.N P l u k_ z_.1 z_.2) k_ z_ (L9a.T n g j1 j2 k p V P l u s_.1 s_.2) h_ := LNextP.mk (Tm := (fun (z_ : Int × (List Int)) => L9a.T n g j1 j2 k p V P l u z_.1 z_.2)) (Hp := (fun (z_ : Int × (List Int)) => L9a.H n g j1 j2 k p V P l u z_.1 z_.2)) (inv := (fun (z_ : Int × (List Int)) => L9a.inv n g j1 j2 k p V P l u z_.1 z_.2)) (mu := (fun (z_ : Int × (List Int)) => L9a.mu n g j1 j2 k p V P l u z_.1 z_.2)) (l := (fun (k_ : Nat) (z_ : Int × (List Int)) => L9a.N P l u k_ z_.1 z_.2)) s_ h1 h2 h3 h4
theorem L9a.en (n : Nat) (g : Nat → PD) (j1 : Int) (j2 : Int) (k : Nat) (p : Nat → PD) (V : Nat) (P : Nat) (l : Nat → Int) (u : Int) {k_ : Nat} {z_ : Int × (List Int)} {h_ : AHeap} (o_ : L9a.O) (h3 : L9a.N P l u (k_ + 1) z_.1 z_.2 = o_) (h4 : PopOk (L9a.H n g j1 j2 k p V P l u z_.1 z_.2) h_ (L9a.X n g j1 j2 k p V P l u o_) (L9a.XH n g j1 j2 k p V P l u o_)) : LEndP (fun (z_ : Int × (List Int)) => L9a.H n g j1 j2 k p V P l u z_.1 z_.2) (fun (k_ : Nat) (z_ : Int × (List Int)) => L9a.N P l u k_ z_.1 z_.2) L9a.E (L9a.X n g j1 j2 k p V P l u) (L9a.XH n g j1 j2 k p V P l u) k_ z_ (L9a.E o_) (L9a.X n g j1 j2 k p V P l u o_) h_ := LEndP.mk (Hp := (fun (z_ : Int × (List Int)) => L9a.H n g j1 j2 k p V P l u z_.1 z_.2)) (l := (fun (k_ : Nat) (z_ : Int × (List Int)) => L9a.N P l u k_ z_.1 z_.2)) (oE := L9a.E) (oT := L9a.X n g j1 j2 k p V P l u) (oH := L9a.XH n g j1 j2 k p V P l u) o_ h3 h4
theorem L9a.spec (n : Nat) (g : Nat → PD) (hn : n ≤ 512) (j1 : Int) (j2 : Int) (k : Nat) (p : Nat → PD) (V : Nat) (P : Nat) (l : Nat → Int) (u : Int) (h0 : 0 ≤ u) (hP : u + (↑P : Int) ≤ (↑n : Int)) (k_ : Nat) (z_ : Int × (List Int)) (hi_ : L9a.inv n g j1 j2 k p V P l u z_.1 z_.2) (hm_ : L9a.mu n g j1 j2 k p V P l u z_.1 z_.2 < k_) : LoopTo Try.prog (loopN Try.f9 0) (L9a.T n g j1 j2 k p V P l u z_.1 z_.2) (L9a.H n g j1 j2 k p V P l u z_.1 z_.2) (L9a.E (L9a.N P l u k_ z_.1 z_.2)) (L9a.X n g j1 j2 k p V P l u (L9a.N P l u k_ z_.1 z_.2)) (L9a.XH n g j1 j2 k p V P l u (L9a.N P l u k_ z_.1 z_.2)) := by
  refine LoopTo.fuelP mix (fun (z_ : Int × (List Int)) => L9a.T n g j1 j2 k p V P l u z_.1 z_.2) (fun (z_ : Int × (List Int)) => L9a.H n g j1 j2 k p V P l u z_.1 z_.2) (fun (z_ : Int × (List Int)) => L9a.inv n g j1 j2 k p V P l u z_.1 z_.2) (fun (z_ : Int × (List Int)) => L9a.mu n g j1 j2 k p V P l u z_.1 z_.2) (fun (k_ : Nat) (z_ : Int × (List Int)) => L9a.N P l u k_ z_.1 z_.2) L9a.E (L9a.X n g j1 j2 k p V P l u) (L9a.XH n g j1 j2 k p V P l u) (others 124 [2, 6, 10, 11, 12]) (others 124 [4]) (others 124 [2, 11]) ?_ k_ z_ hi_ hm_
  clear hm_ hi_ z_ k_
  intro k_ z_ hinv hmu
  obtain ⟨i, xs⟩ := z_
  have hinv : (0 ≤ i ∧ i ≤ (↑P : Int)) ∧ xs.length = n := hinv
  have hmu : (((↑P : Int) - i).toNat) < k_ + 1 := hmu
  cases h1 : decide (i < (↑P : Int)) with
  | true =>
    have h1p := of_decide_eq_true h1
    have o0 : (0 : Int) ≤ i := by first | assumption | omega | (simp_all; done)
    have o1 : i < (↑P : Int) := by first | assumption | omega | (simp_all; done)
    try have := IntWalk.i64_in (u + i) (by omega)
    have o2 : (0 : Int) ≤ IntKind.i64.wrap (u + i) := by first | assumption | omega | (simp_all; done)
    have o3 : IntKind.i64.wrap (u + i) < (↑n : Int) := by first | assumption | omega | (simp_all; done)
    have o4 : (0 : Nat) + (IntKind.i64.wrap (u + i)).toNat < (Col.ints IntKind.i64 xs).len := by first | assumption | omega | (simp only [List.length_append, List.length_cons, List.length_nil, List.length_map]; omega) | rfl | (exact Nat.le_refl _) | (simp [Col.len]; done) | (simp only [Col.len, zero_bool, zero_int, List.length_replicate, List.length_set] at *; omega) | (simp_all; done)
    try have := IntWalk.i64_in (i + 1) (by omega)
    have o5 : (0 : Int) ≤ IntKind.i64.wrap (i + (1 : Int)) := by first | assumption | omega | (simp_all; done)
    have o6 : IntKind.i64.wrap (i + (1 : Int)) ≤ (↑P : Int) := by first | assumption | omega | (simp_all; done)
    have o7 : (xs.set ((0 : Nat) + (IntKind.i64.wrap (u + i)).toNat) (l i.toNat)).length = n := by first | assumption | omega | (simp only [List.length_append, List.length_cons, List.length_nil, List.length_map]; omega) | (simp_all; done)
    have o8 : ((↑P : Int) - IntKind.i64.wrap (i + (1 : Int))).toNat < ((↑P : Int) - i).toNat := by first | assumption | omega | (simp_all; done)
    exact ⟨[.b true], kmp (by kernel_rfl) (And.intro h1 (And.intro (And.intro o0 o1) (And.intro (And.intro o2 o3) (And.intro (And.intro (rfl : V = V) o4) (L9a.nx n g j1 j2 k p V P l u (k_ := k_) (z_ := (i, xs)) ((IntKind.i64.wrap (i + 1), xs.set (0 + (IntKind.i64.wrap (u + i)).toNat) (l i.toNat))) (And.intro (And.intro o5 o6) o7) o8 (by first | (simp only [L9a.N, h1, cond_true, cond_false]; done) | (try unfold L9a.N; try simp only [h1, cond_true, cond_false]; try rfl; done)) PopOk.same)))))⟩
  | false =>
    have h1p := of_decide_eq_false h1
    exact ⟨[.b false], kmp (by kernel_rfl) (And.intro h1 (L9a.en n g j1 j2 k p V P l u (k_ := k_) (z_ := (i, xs)) (.e0 (xs) : L9a.O) (by first | (simp only [L9a.N, h1, cond_true, cond_false]; done) | (try unfold L9a.N; try simp only [h1, cond_true, cond_false]; try rfl; done)) PopOk.same))⟩
theorem L9a.e0 (n : Nat) (g : Nat → PD) (hn : n ≤ 512) (j1 : Int) (j2 : Int) (k : Nat) (p : Nat → PD) (V : Nat) (P : Nat) (l : Nat → Int) (u : Int) (h0 : 0 ≤ u) (hP : u + (↑P : Int) ≤ (↑n : Int)) (i : Int) (xs : List Int) (hinv : L9a.inv n g j1 j2 k p V P l u i xs) (a0 : List Int) (hN : L9a.run P l u i xs = (.e0 a0 : L9a.O)) : LoopTo Try.prog (loopN Try.f9 0) (L9a.T n g j1 j2 k p V P l u i xs) (L9a.H n g j1 j2 k p V P l u i xs) (Exit.exit 0) (L9a.X n g j1 j2 k p V P l u (.e0 a0 : L9a.O)) (L9a.XH n g j1 j2 k p V P l u (.e0 a0 : L9a.O)) := by
  have h_ := L9a.spec n g hn j1 j2 k p V P l u h0 hP ((((↑P : Int) - i).toNat) + 1) (i, xs) hinv (Nat.lt_succ_self _)
  unfold L9a.run at hN
  simp only [hN] at h_
  exact h_
theorem L9a.len0_0 (P : Nat) (l : Nat → Int) (u : Int) : ∀ (m_ : Nat) (i : Int) (xs : List Int) (a0_ : List Int), L9a.N P l u m_ i xs = (.e0 a0_ : L9a.O) → (a0_).length ≤ (xs).length + m_ := by
  intro m_
  induction m_ with
  | zero =>
    intro i xs a0_ h_
    simp only [L9a.N] at h_
    first | (cases h_; done) | (cases h_; first | exact Nat.zero_le _ | omega)
  | succ m_ ih_ =>
    intro i xs a0_ h_
    cases h1 : decide (i < (↑P : Int)) with
    | true =>
      have h1p := of_decide_eq_true h1
      (simp only [L9a.N, h1, cond_true, cond_false] at h_; first | (have := ih_ _ _ _ h_; (try simp only [List.length_append, List.length_cons, List.length_nil, List.length_set] at this); omega) | (cases h_; done) | (cases h_; omega))
    | false =>
      have h1p := of_decide_eq_false h1
      (simp only [L9a.N, h1, cond_true, cond_false] at h_; first | (have := ih_ _ _ _ h_; (try simp only [List.length_append, List.length_cons, List.length_nil, List.length_set] at this); omega) | (cases h_; done) | (cases h_; omega))
theorem L9a.lenR0_0 (P : Nat) (l : Nat → Int) (u : Int) {i : Int} {xs : List Int} {a0_ : List Int} (h_ : L9a.run P l u i xs = (.e0 a0_ : L9a.O)) : (a0_).length ≤ (xs).length + ((((↑P : Int) - i).toNat) + 1) := L9a.len0_0 P l u _ i xs a0_ h_
theorem L9a.leq0_0 (P : Nat) (l : Nat → Int) (u : Int) : ∀ (m_ : Nat) (i : Int) (xs : List Int) (a0_ : List Int), L9a.N P l u m_ i xs = (.e0 a0_ : L9a.O) → (a0_).length = (xs).length := by
  intro m_
  induction m_ with
  | zero =>
    intro i xs a0_ h_
    simp only [L9a.N] at h_
    cases h_
    try rfl
  | succ m_ ih_ =>
    intro i xs a0_ h_
    cases h1 : decide (i < (↑P : Int)) with
    | true =>
      have h1p := of_decide_eq_true h1
      (simp only [L9a.N, h1, cond_true, cond_false] at h_; first | (have q_ := ih_ _ _ _ h_; (try simp only [List.length_set] at *); omega) | (cases h_; done) | (cases h_; first | rfl | simp))
    | false =>
      have h1p := of_decide_eq_false h1
      (simp only [L9a.N, h1, cond_true, cond_false] at h_; first | (have q_ := ih_ _ _ _ h_; (try simp only [List.length_set] at *); omega) | (cases h_; done) | (cases h_; first | rfl | simp))
theorem L9a.leqR0_0 (P : Nat) (l : Nat → Int) (u : Int) {i : Int} {xs : List Int} {a0_ : List Int} (h_ : L9a.run P l u i xs = (.e0 a0_ : L9a.O)) : (a0_).length = (xs).length := L9a.leq0_0 P l u _ i xs a0_ h_

noncomputable def r9.v (n : Nat) (g : Nat → PD) (j1 : Int) (j2 : Int) (k : Nat) (p : Nat → PD) (m : Nat) (f : Nat → Int) : Bool := (bif r12.v n k then (bif r19.v2 n g j1 j2 k p == 0 then (bif r18.v1 n g j1 j2 k p == 0 then (bif r18.v0 n g j1 j2 k p then false else (bif decide (r19.v0 n g j1 j2 k p < 0) then false else (bif decide (r19.v0 n g j1 j2 k p ≥ (↑k : Int)) then false else (bif decide (r19.v0 n g j1 j2 k p > 0) then (bif (↑(r19.v1 n g j1 j2 k p).length : Int) == IntKind.i64.wrap ((p (r19.v0 n g j1 j2 k p).toNat).lo - (p (IntKind.i64.wrap (r19.v0 n g j1 j2 k p - 1)).toNat).lo) then (bif decide ((p (IntKind.i64.wrap (r19.v0 n g j1 j2 k p - 1)).toNat).lo < 0) then false else (bif decide ((p (IntKind.i64.wrap (r19.v0 n g j1 j2 k p - 1)).toNat).lo > IntKind.i64.wrap ((↑n : Int) - (↑(r19.v1 n g j1 j2 k p).length : Int))) then false else (match L9a.run (r19.v1 n g j1 j2 k p).length (fun (i : Nat) => (r19.v1 n g j1 j2 k p).getD i 0) (p (IntKind.i64.wrap (r19.v0 n g j1 j2 k p - 1)).toNat).lo 0 (pks n g m f) with | .e0 h11d0 => (r22.v1 n g j1 j2 k p n fun (i : Nat) => h11d0.getD i 0) == 10 ))) else false) else (bif (↑(r19.v1 n g j1 j2 k p).length : Int) == IntKind.i64.wrap ((p (r19.v0 n g j1 j2 k p).toNat).lo - 0) then (bif decide (0 > IntKind.i64.wrap ((↑n : Int) - (↑(r19.v1 n g j1 j2 k p).length : Int))) then false else (match L9a.run (r19.v1 n g j1 j2 k p).length (fun (i : Nat) => (r19.v1 n g j1 j2 k p).getD i 0) 0 0 (pks n g m f) with | .e0 h10d0 => (r22.v1 n g j1 j2 k p n fun (i : Nat) => h10d0.getD i 0) == 10 )) else false))))) else false) else (bif r19.v0 n g j1 j2 k p == 0 then (bif (↑(r19.v1 n g j1 j2 k p).length : Int) == 0 then r18.v0 n g j1 j2 k p == (r19.v2 n g j1 j2 k p == 9) else false) else false)) else true)
noncomputable abbrev r9.h0 (n : Nat) (g : Nat → PD) (j1 : Int) (j2 : Int) (k : Nat) (p : Nat → PD) (m : Nat) (f : Nat → Int) : AHeap := ([AObj.var (AV.agg [AV.sl 2 n fun (i : Nat) => AV.agg [AV.int IntKind.i64 (g i).lo, AV.int IntKind.i64 (g i).hi], AV.int IntKind.i64 j1, AV.int IntKind.i64 j2, AV.sl 2 k fun (i : Nat) => AV.agg [AV.int IntKind.i64 (p i).lo, AV.int IntKind.i64 (p i).hi]])])
noncomputable abbrev r9.h1 (n : Nat) (g : Nat → PD) (j1 : Int) (j2 : Int) (k : Nat) (p : Nat → PD) (m : Nat) (f : Nat → Int) : AHeap := ([AObj.var (AV.agg [AV.sl 2 n fun (i : Nat) => AV.agg [AV.int IntKind.i64 (g i).lo, AV.int IntKind.i64 (g i).hi], AV.int IntKind.i64 j1, AV.int IntKind.i64 j2, AV.sl 2 k fun (i : Nat) => AV.agg [AV.int IntKind.i64 (p i).lo, AV.int IntKind.i64 (p i).hi]]), AObj.row 1 (v30 n g m f) (Col.ints IntKind.i64 (pks n g m f))])
theorem r9 (n : Nat) (g : Nat → PD) (hn : n ≤ 9223372036854775807) (j1 : Int) (j2 : Int) (k : Nat) (p : Nat → PD) (m : Nat) (f : Nat → Int) (hm : m ≤ 9223372036854775807) (h : AHeap) : Ret Try.prog 9 ([rn n g j1 j2 k p, ivs m f]) h (AV.bool (r9.v n g j1 j2 k p m f)) h := by
  cases h1 : r12.v n k with
  | true =>
    try have := bd12 (by first | assumption | omega)
    try have := bd18a (by first | assumption | omega) (by first | assumption | omega) (by first | assumption | omega)
    try have := bd19x (by first | assumption | omega) (by first | assumption | omega) (by first | assumption | omega) (by first | assumption | omega)
    have o0 : k ≤ (30 : Nat) := by first | assumption | omega | (simp_all; done)
    have o1 : n ≤ (9223372036854775807 : Nat) := by first | assumption | omega | (simp_all; done)
    cases h2 : r19.v2 n g j1 j2 k p == 0 with
    | true =>
      have h2p := eq_of_beq h2
      cases h3 : r18.v1 n g j1 j2 k p == 0 with
      | true =>
        have h3p := eq_of_beq h3
        cases h4 : r18.v0 n g j1 j2 k p with
        | true =>
          exact Ret.of_run1 mix [(AV.bool (r9.v n g j1 j2 k p m f))] Try.func9 rfl [.ret (AV.bool true) (r9.h0 n g j1 j2 k p m f), .b false, .ret (AV.bool (r12.v n k)) (r9.h0 n g j1 j2 k p m f), .b false, .ret (AV.agg [AV.sl 2 n fun (i : Nat) => AV.agg [AV.int IntKind.i64 (g i).lo, AV.int IntKind.i64 (g i).hi], AV.int IntKind.i64 j1, AV.int IntKind.i64 j2, AV.sl 2 k fun (i : Nat) => AV.agg [AV.int IntKind.i64 (p i).lo, AV.int IntKind.i64 (p i).hi]]) (r9.h0 n g j1 j2 k p m f), .ret (AV.tup [AV.int IntKind.i64 (r19.v0 n g j1 j2 k p), AV.sl 1 (r19.v1 n g j1 j2 k p).length fun (a : Nat) => AV.int IntKind.i64 ((r19.v1 n g j1 j2 k p).getD a 0), AV.int IntKind.i64 (r19.v2 n g j1 j2 k p)]) (r9.h0 n g j1 j2 k p m f), .ret (AV.agg [AV.sl 2 n fun (i : Nat) => AV.agg [AV.int IntKind.i64 (g i).lo, AV.int IntKind.i64 (g i).hi], AV.int IntKind.i64 j1, AV.int IntKind.i64 j2, AV.sl 2 k fun (i : Nat) => AV.agg [AV.int IntKind.i64 (p i).lo, AV.int IntKind.i64 (p i).hi]]) (r9.h0 n g j1 j2 k p m f), .ret (AV.tup [AV.bool (r18.v0 n g j1 j2 k p), AV.int IntKind.i64 (r18.v1 n g j1 j2 k p)]) (r9.h0 n g j1 j2 k p m f), .b false, .b false, .b false, .b true, .b true, .b true, .b true, .b true, .b true, .b true, .b true, .b true, .b true] (by simp) (by simp) (kmp (by kernel_rfl) (And.intro (r11t (r9.h0 n g j1 j2 k p m f)) (And.intro (rfl : false = false) (And.intro (r12 (n) (g) (j1) (j2) (k) (p) (r9.h0 n g j1 j2 k p m f)) (And.intro (show (bnot (r12.v n k)) = false by rw [h1]; try rfl) (And.intro (c14 (n) (g) (j1) (j2) (k) (p) o0 (r9.h0 n g j1 j2 k p m f)) (And.intro (r19 (n) (g) o1 (j1) (j2) (k) (p) o0 (r9.h0 n g j1 j2 k p m f)) (And.intro (c14 (n) (g) (j1) (j2) (k) (p) o0 (r9.h0 n g j1 j2 k p m f)) (And.intro (r18 (n) (g) o1 (j1) (j2) (k) (p) o0 (r9.h0 n g j1 j2 k p m f)) (And.intro (show (bnot (r19.v2 n g j1 j2 k p == 0)) = false by rw [h2]; try rfl) (And.intro (show (bnot (r18.v1 n g j1 j2 k p == 0)) = false by rw [h3]; try rfl) (And.intro (show (bnot (r18.v1 n g j1 j2 k p == 0)) = false by rw [h3]; try rfl) (And.intro h4 (And.intro h4 (And.intro h4 (And.intro (rfl : true = true) (And.intro (rfl : true = true) (And.intro (rfl : true = true) (And.intro (rfl : true = true) (And.intro (rfl : true = true) (And.intro (rfl : true = true) (And.intro (rfl : true = true) (And.intro (show (AV.bool false) = ((AV.bool (r9.v n g j1 j2 k p m f))) by first | (simp only [r9.v, h1, h2, h3, h4, cond_true, cond_false]; done) | (try unfold r9.v; try simp only [h1, cond_true, cond_false]; try simp only [h2, cond_true, cond_false]; try simp only [h3, cond_true, cond_false]; try simp only [h4, cond_true, cond_false]; try rfl; done) | rfl) trivial))))))))))))))))))))))) h
        | false =>
          cases h5 : decide (r19.v0 n g j1 j2 k p < 0) with
          | true =>
            have h5p := of_decide_eq_true h5
            exact Ret.of_run1 mix [(AV.bool (r9.v n g j1 j2 k p m f))] Try.func9 rfl [.ret (AV.bool true) (r9.h0 n g j1 j2 k p m f), .b false, .ret (AV.bool (r12.v n k)) (r9.h0 n g j1 j2 k p m f), .b false, .ret (AV.agg [AV.sl 2 n fun (i : Nat) => AV.agg [AV.int IntKind.i64 (g i).lo, AV.int IntKind.i64 (g i).hi], AV.int IntKind.i64 j1, AV.int IntKind.i64 j2, AV.sl 2 k fun (i : Nat) => AV.agg [AV.int IntKind.i64 (p i).lo, AV.int IntKind.i64 (p i).hi]]) (r9.h0 n g j1 j2 k p m f), .ret (AV.tup [AV.int IntKind.i64 (r19.v0 n g j1 j2 k p), AV.sl 1 (r19.v1 n g j1 j2 k p).length fun (a : Nat) => AV.int IntKind.i64 ((r19.v1 n g j1 j2 k p).getD a 0), AV.int IntKind.i64 (r19.v2 n g j1 j2 k p)]) (r9.h0 n g j1 j2 k p m f), .ret (AV.agg [AV.sl 2 n fun (i : Nat) => AV.agg [AV.int IntKind.i64 (g i).lo, AV.int IntKind.i64 (g i).hi], AV.int IntKind.i64 j1, AV.int IntKind.i64 j2, AV.sl 2 k fun (i : Nat) => AV.agg [AV.int IntKind.i64 (p i).lo, AV.int IntKind.i64 (p i).hi]]) (r9.h0 n g j1 j2 k p m f), .ret (AV.tup [AV.bool (r18.v0 n g j1 j2 k p), AV.int IntKind.i64 (r18.v1 n g j1 j2 k p)]) (r9.h0 n g j1 j2 k p m f), .b false, .b false, .b false, .b false, .b false, .b false, .b true, .b true, .b true, .b true, .b true, .b true, .b true] (by simp) (by simp) (kmp (by kernel_rfl) (And.intro (r11t (r9.h0 n g j1 j2 k p m f)) (And.intro (rfl : false = false) (And.intro (r12 (n) (g) (j1) (j2) (k) (p) (r9.h0 n g j1 j2 k p m f)) (And.intro (show (bnot (r12.v n k)) = false by rw [h1]; try rfl) (And.intro (c14 (n) (g) (j1) (j2) (k) (p) o0 (r9.h0 n g j1 j2 k p m f)) (And.intro (r19 (n) (g) o1 (j1) (j2) (k) (p) o0 (r9.h0 n g j1 j2 k p m f)) (And.intro (c14 (n) (g) (j1) (j2) (k) (p) o0 (r9.h0 n g j1 j2 k p m f)) (And.intro (r18 (n) (g) o1 (j1) (j2) (k) (p) o0 (r9.h0 n g j1 j2 k p m f)) (And.intro (show (bnot (r19.v2 n g j1 j2 k p == 0)) = false by rw [h2]; try rfl) (And.intro (show (bnot (r18.v1 n g j1 j2 k p == 0)) = false by rw [h3]; try rfl) (And.intro (show (bnot (r18.v1 n g j1 j2 k p == 0)) = false by rw [h3]; try rfl) (And.intro h4 (And.intro h4 (And.intro h4 (And.intro h5 (And.intro h5 (And.intro h5 (And.intro h5 (And.intro h5 (And.intro h5 (And.intro (rfl : true = true) (And.intro (show (AV.bool false) = ((AV.bool (r9.v n g j1 j2 k p m f))) by first | (simp only [r9.v, h1, h2, h3, h4, h5, cond_true, cond_false]; done) | (try unfold r9.v; try simp only [h1, cond_true, cond_false]; try simp only [h2, cond_true, cond_false]; try simp only [h3, cond_true, cond_false]; try simp only [h4, cond_true, cond_false]; try simp only [h5, cond_true, cond_false]; try rfl; done) | rfl) trivial))))))))))))))))))))))) h
          | false =>
            have h5p := of_decide_eq_false h5
            cases h6 : decide (r19.v0 n g j1 j2 k p ≥ (↑k : Int)) with
            | true =>
              have h6p := of_decide_eq_true h6
              exact Ret.of_run1 mix [(AV.bool (r9.v n g j1 j2 k p m f))] Try.func9 rfl [.ret (AV.bool true) (r9.h0 n g j1 j2 k p m f), .b false, .ret (AV.bool (r12.v n k)) (r9.h0 n g j1 j2 k p m f), .b false, .ret (AV.agg [AV.sl 2 n fun (i : Nat) => AV.agg [AV.int IntKind.i64 (g i).lo, AV.int IntKind.i64 (g i).hi], AV.int IntKind.i64 j1, AV.int IntKind.i64 j2, AV.sl 2 k fun (i : Nat) => AV.agg [AV.int IntKind.i64 (p i).lo, AV.int IntKind.i64 (p i).hi]]) (r9.h0 n g j1 j2 k p m f), .ret (AV.tup [AV.int IntKind.i64 (r19.v0 n g j1 j2 k p), AV.sl 1 (r19.v1 n g j1 j2 k p).length fun (a : Nat) => AV.int IntKind.i64 ((r19.v1 n g j1 j2 k p).getD a 0), AV.int IntKind.i64 (r19.v2 n g j1 j2 k p)]) (r9.h0 n g j1 j2 k p m f), .ret (AV.agg [AV.sl 2 n fun (i : Nat) => AV.agg [AV.int IntKind.i64 (g i).lo, AV.int IntKind.i64 (g i).hi], AV.int IntKind.i64 j1, AV.int IntKind.i64 j2, AV.sl 2 k fun (i : Nat) => AV.agg [AV.int IntKind.i64 (p i).lo, AV.int IntKind.i64 (p i).hi]]) (r9.h0 n g j1 j2 k p m f), .ret (AV.tup [AV.bool (r18.v0 n g j1 j2 k p), AV.int IntKind.i64 (r18.v1 n g j1 j2 k p)]) (r9.h0 n g j1 j2 k p m f), .b false, .b false, .b false, .b false, .b false, .b false, .b false, .b false, .b false, .b false, .b false, .b false, .b true] (by simp) (by simp) (kmp (by kernel_rfl) (And.intro (r11t (r9.h0 n g j1 j2 k p m f)) (And.intro (rfl : false = false) (And.intro (r12 (n) (g) (j1) (j2) (k) (p) (r9.h0 n g j1 j2 k p m f)) (And.intro (show (bnot (r12.v n k)) = false by rw [h1]; try rfl) (And.intro (c14 (n) (g) (j1) (j2) (k) (p) o0 (r9.h0 n g j1 j2 k p m f)) (And.intro (r19 (n) (g) o1 (j1) (j2) (k) (p) o0 (r9.h0 n g j1 j2 k p m f)) (And.intro (c14 (n) (g) (j1) (j2) (k) (p) o0 (r9.h0 n g j1 j2 k p m f)) (And.intro (r18 (n) (g) o1 (j1) (j2) (k) (p) o0 (r9.h0 n g j1 j2 k p m f)) (And.intro (show (bnot (r19.v2 n g j1 j2 k p == 0)) = false by rw [h2]; try rfl) (And.intro (show (bnot (r18.v1 n g j1 j2 k p == 0)) = false by rw [h3]; try rfl) (And.intro (show (bnot (r18.v1 n g j1 j2 k p == 0)) = false by rw [h3]; try rfl) (And.intro h4 (And.intro h4 (And.intro h4 (And.intro h5 (And.intro h5 (And.intro h5 (And.intro h5 (And.intro h5 (And.intro h5 (And.intro h6 (And.intro (show (AV.bool false) = ((AV.bool (r9.v n g j1 j2 k p m f))) by first | (simp only [r9.v, h1, h2, h3, h4, h5, h6, cond_true, cond_false]; done) | (try unfold r9.v; try simp only [h1, cond_true, cond_false]; try simp only [h2, cond_true, cond_false]; try simp only [h3, cond_true, cond_false]; try simp only [h4, cond_true, cond_false]; try simp only [h5, cond_true, cond_false]; try simp only [h6, cond_true, cond_false]; try rfl; done) | rfl) trivial))))))))))))))))))))))) h
            | false =>
              have h6p := of_decide_eq_false h6
              cases h7 : decide (r19.v0 n g j1 j2 k p > 0) with
              | true =>
                have h7p := of_decide_eq_true h7
                try have := bd12 (by first | assumption | omega)
                try have := bd18a (by first | assumption | omega) (by first | assumption | omega) (by first | assumption | omega)
                try have := bd19x (by first | assumption | omega) (by first | assumption | omega) (by first | assumption | omega) (by first | assumption | omega)
                try have := IntWalk.i64_in (r19.v0 n g j1 j2 k p - 1) (by omega)
                have o2 : (0 : Int) ≤ IntKind.i64.wrap (r19.v0 n g j1 j2 k p - (1 : Int)) := by first | assumption | omega | (simp_all; done)
                have o3 : IntKind.i64.wrap (r19.v0 n g j1 j2 k p - (1 : Int)) < (↑k : Int) := by first | assumption | omega | (simp_all; done)
                have o4 : n ≤ (512 : Nat) := by first | assumption | omega | (simp_all; done)
                have o5 : ROk n g j1 j2 k p := by first | assumption | (apply ok18b <;> first | assumption | omega) | (simp_all; done)
                have o6 : m ≤ (9223372036854775807 : Nat) := by first | assumption | omega | (simp_all; done)
                have o7 : (0 : Int) ≤ r19.v0 n g j1 j2 k p := by first | assumption | omega | (simp_all; done)
                have o8 : r19.v0 n g j1 j2 k p < (↑k : Int) := by first | assumption | omega | (simp_all; done)
                cases h8 : (↑(r19.v1 n g j1 j2 k p).length : Int) == IntKind.i64.wrap ((p (r19.v0 n g j1 j2 k p).toNat).lo - (p (IntKind.i64.wrap (r19.v0 n g j1 j2 k p - 1)).toNat).lo) with
                | true =>
                  have h8p := eq_of_beq h8
                  cases h9 : decide ((p (IntKind.i64.wrap (r19.v0 n g j1 j2 k p - 1)).toNat).lo < 0) with
                  | true =>
                    have h9p := of_decide_eq_true h9
                    exact Ret.of_run1 mix [(AV.bool (r9.v n g j1 j2 k p m f))] Try.func9 rfl [.ret (AV.bool true) (r9.h0 n g j1 j2 k p m f), .b false, .ret (AV.bool (r12.v n k)) (r9.h0 n g j1 j2 k p m f), .b false, .ret (AV.agg [AV.sl 2 n fun (i : Nat) => AV.agg [AV.int IntKind.i64 (g i).lo, AV.int IntKind.i64 (g i).hi], AV.int IntKind.i64 j1, AV.int IntKind.i64 j2, AV.sl 2 k fun (i : Nat) => AV.agg [AV.int IntKind.i64 (p i).lo, AV.int IntKind.i64 (p i).hi]]) (r9.h0 n g j1 j2 k p m f), .ret (AV.tup [AV.int IntKind.i64 (r19.v0 n g j1 j2 k p), AV.sl 1 (r19.v1 n g j1 j2 k p).length fun (a : Nat) => AV.int IntKind.i64 ((r19.v1 n g j1 j2 k p).getD a 0), AV.int IntKind.i64 (r19.v2 n g j1 j2 k p)]) (r9.h0 n g j1 j2 k p m f), .ret (AV.agg [AV.sl 2 n fun (i : Nat) => AV.agg [AV.int IntKind.i64 (g i).lo, AV.int IntKind.i64 (g i).hi], AV.int IntKind.i64 j1, AV.int IntKind.i64 j2, AV.sl 2 k fun (i : Nat) => AV.agg [AV.int IntKind.i64 (p i).lo, AV.int IntKind.i64 (p i).hi]]) (r9.h0 n g j1 j2 k p m f), .ret (AV.tup [AV.bool (r18.v0 n g j1 j2 k p), AV.int IntKind.i64 (r18.v1 n g j1 j2 k p)]) (r9.h0 n g j1 j2 k p m f), .b false, .b false, .b false, .b false, .b false, .b false, .b false, .b false, .b false, .b false, .b false, .b false, .b false, .b true, .ret (AV.ms 1 (v30 n g m f) 1 0 n) (r9.h1 n g j1 j2 k p m f), .b false, .b false, .b false, .b true, .b true, .b true, .b true, .b true, .b true, .b true, .b true, .b true] (by simp) (by simp) (kmp (by kernel_rfl) (And.intro (r11t (r9.h0 n g j1 j2 k p m f)) (And.intro (rfl : false = false) (And.intro (r12 (n) (g) (j1) (j2) (k) (p) (r9.h0 n g j1 j2 k p m f)) (And.intro (show (bnot (r12.v n k)) = false by rw [h1]; try rfl) (And.intro (c14 (n) (g) (j1) (j2) (k) (p) o0 (r9.h0 n g j1 j2 k p m f)) (And.intro (r19 (n) (g) o1 (j1) (j2) (k) (p) o0 (r9.h0 n g j1 j2 k p m f)) (And.intro (c14 (n) (g) (j1) (j2) (k) (p) o0 (r9.h0 n g j1 j2 k p m f)) (And.intro (r18 (n) (g) o1 (j1) (j2) (k) (p) o0 (r9.h0 n g j1 j2 k p m f)) (And.intro (show (bnot (r19.v2 n g j1 j2 k p == 0)) = false by rw [h2]; try rfl) (And.intro (show (bnot (r18.v1 n g j1 j2 k p == 0)) = false by rw [h3]; try rfl) (And.intro (show (bnot (r18.v1 n g j1 j2 k p == 0)) = false by rw [h3]; try rfl) (And.intro h4 (And.intro h4 (And.intro h4 (And.intro h5 (And.intro h5 (And.intro h5 (And.intro h5 (And.intro h5 (And.intro h5 (And.intro h6 (And.intro h7 (And.intro (And.intro o2 o3) (And.intro (c30o (n) (g) o4 (j1) (j2) (k) (p) o5 (m) (f) o6 (r9.h0 n g j1 j2 k p m f)) (And.intro (And.intro o7 o8) (And.intro (show (bnot ((↑(r19.v1 n g j1 j2 k p).length : Int) == IntKind.i64.wrap ((p (r19.v0 n g j1 j2 k p).toNat).lo - (p (IntKind.i64.wrap (r19.v0 n g j1 j2 k p - 1)).toNat).lo))) = false by rw [h8]; try rfl) (And.intro (show (bnot ((↑(r19.v1 n g j1 j2 k p).length : Int) == IntKind.i64.wrap ((p (r19.v0 n g j1 j2 k p).toNat).lo - (p (IntKind.i64.wrap (r19.v0 n g j1 j2 k p - 1)).toNat).lo))) = false by rw [h8]; try rfl) (And.intro (show (bnot ((↑(r19.v1 n g j1 j2 k p).length : Int) == IntKind.i64.wrap ((p (r19.v0 n g j1 j2 k p).toNat).lo - (p (IntKind.i64.wrap (r19.v0 n g j1 j2 k p - 1)).toNat).lo))) = false by rw [h8]; try rfl) (And.intro h9 (And.intro h9 (And.intro h9 (And.intro h9 (And.intro h9 (And.intro h9 (And.intro h9 (And.intro h9 (And.intro (rfl : true = true) (And.intro (show (AV.bool false) = ((AV.bool (r9.v n g j1 j2 k p m f))) by first | (simp only [r9.v, h1, h2, h3, h4, h5, h6, h7, h8, h9, cond_true, cond_false]; done) | (try unfold r9.v; try simp only [h1, cond_true, cond_false]; try simp only [h2, cond_true, cond_false]; try simp only [h3, cond_true, cond_false]; try simp only [h4, cond_true, cond_false]; try simp only [h5, cond_true, cond_false]; try simp only [h6, cond_true, cond_false]; try simp only [h7, cond_true, cond_false]; try simp only [h8, cond_true, cond_false]; try simp only [h9, cond_true, cond_false]; try rfl; done) | rfl) trivial))))))))))))))))))))))))))))))))))))))) h
                  | false =>
                    have h9p := of_decide_eq_false h9
                    cases h10 : decide ((p (IntKind.i64.wrap (r19.v0 n g j1 j2 k p - 1)).toNat).lo > IntKind.i64.wrap ((↑n : Int) - (↑(r19.v1 n g j1 j2 k p).length : Int))) with
                    | true =>
                      have h10p := of_decide_eq_true h10
                      exact Ret.of_run1 mix [(AV.bool (r9.v n g j1 j2 k p m f))] Try.func9 rfl [.ret (AV.bool true) (r9.h0 n g j1 j2 k p m f), .b false, .ret (AV.bool (r12.v n k)) (r9.h0 n g j1 j2 k p m f), .b false, .ret (AV.agg [AV.sl 2 n fun (i : Nat) => AV.agg [AV.int IntKind.i64 (g i).lo, AV.int IntKind.i64 (g i).hi], AV.int IntKind.i64 j1, AV.int IntKind.i64 j2, AV.sl 2 k fun (i : Nat) => AV.agg [AV.int IntKind.i64 (p i).lo, AV.int IntKind.i64 (p i).hi]]) (r9.h0 n g j1 j2 k p m f), .ret (AV.tup [AV.int IntKind.i64 (r19.v0 n g j1 j2 k p), AV.sl 1 (r19.v1 n g j1 j2 k p).length fun (a : Nat) => AV.int IntKind.i64 ((r19.v1 n g j1 j2 k p).getD a 0), AV.int IntKind.i64 (r19.v2 n g j1 j2 k p)]) (r9.h0 n g j1 j2 k p m f), .ret (AV.agg [AV.sl 2 n fun (i : Nat) => AV.agg [AV.int IntKind.i64 (g i).lo, AV.int IntKind.i64 (g i).hi], AV.int IntKind.i64 j1, AV.int IntKind.i64 j2, AV.sl 2 k fun (i : Nat) => AV.agg [AV.int IntKind.i64 (p i).lo, AV.int IntKind.i64 (p i).hi]]) (r9.h0 n g j1 j2 k p m f), .ret (AV.tup [AV.bool (r18.v0 n g j1 j2 k p), AV.int IntKind.i64 (r18.v1 n g j1 j2 k p)]) (r9.h0 n g j1 j2 k p m f), .b false, .b false, .b false, .b false, .b false, .b false, .b false, .b false, .b false, .b false, .b false, .b false, .b false, .b true, .ret (AV.ms 1 (v30 n g m f) 1 0 n) (r9.h1 n g j1 j2 k p m f), .b false, .b false, .b false, .b false, .b false, .b false, .b false, .b false, .b false, .b false, .b false, .b true] (by simp) (by simp) (kmp (by kernel_rfl) (And.intro (r11t (r9.h0 n g j1 j2 k p m f)) (And.intro (rfl : false = false) (And.intro (r12 (n) (g) (j1) (j2) (k) (p) (r9.h0 n g j1 j2 k p m f)) (And.intro (show (bnot (r12.v n k)) = false by rw [h1]; try rfl) (And.intro (c14 (n) (g) (j1) (j2) (k) (p) o0 (r9.h0 n g j1 j2 k p m f)) (And.intro (r19 (n) (g) o1 (j1) (j2) (k) (p) o0 (r9.h0 n g j1 j2 k p m f)) (And.intro (c14 (n) (g) (j1) (j2) (k) (p) o0 (r9.h0 n g j1 j2 k p m f)) (And.intro (r18 (n) (g) o1 (j1) (j2) (k) (p) o0 (r9.h0 n g j1 j2 k p m f)) (And.intro (show (bnot (r19.v2 n g j1 j2 k p == 0)) = false by rw [h2]; try rfl) (And.intro (show (bnot (r18.v1 n g j1 j2 k p == 0)) = false by rw [h3]; try rfl) (And.intro (show (bnot (r18.v1 n g j1 j2 k p == 0)) = false by rw [h3]; try rfl) (And.intro h4 (And.intro h4 (And.intro h4 (And.intro h5 (And.intro h5 (And.intro h5 (And.intro h5 (And.intro h5 (And.intro h5 (And.intro h6 (And.intro h7 (And.intro (And.intro o2 o3) (And.intro (c30o (n) (g) o4 (j1) (j2) (k) (p) o5 (m) (f) o6 (r9.h0 n g j1 j2 k p m f)) (And.intro (And.intro o7 o8) (And.intro (show (bnot ((↑(r19.v1 n g j1 j2 k p).length : Int) == IntKind.i64.wrap ((p (r19.v0 n g j1 j2 k p).toNat).lo - (p (IntKind.i64.wrap (r19.v0 n g j1 j2 k p - 1)).toNat).lo))) = false by rw [h8]; try rfl) (And.intro (show (bnot ((↑(r19.v1 n g j1 j2 k p).length : Int) == IntKind.i64.wrap ((p (r19.v0 n g j1 j2 k p).toNat).lo - (p (IntKind.i64.wrap (r19.v0 n g j1 j2 k p - 1)).toNat).lo))) = false by rw [h8]; try rfl) (And.intro (show (bnot ((↑(r19.v1 n g j1 j2 k p).length : Int) == IntKind.i64.wrap ((p (r19.v0 n g j1 j2 k p).toNat).lo - (p (IntKind.i64.wrap (r19.v0 n g j1 j2 k p - 1)).toNat).lo))) = false by rw [h8]; try rfl) (And.intro h9 (And.intro h9 (And.intro h9 (And.intro h9 (And.intro h9 (And.intro h9 (And.intro h9 (And.intro h9 (And.intro h10 (And.intro (show (AV.bool false) = ((AV.bool (r9.v n g j1 j2 k p m f))) by first | (simp only [r9.v, h1, h2, h3, h4, h5, h6, h7, h8, h9, h10, cond_true, cond_false]; done) | (try unfold r9.v; try simp only [h1, cond_true, cond_false]; try simp only [h2, cond_true, cond_false]; try simp only [h3, cond_true, cond_false]; try simp only [h4, cond_true, cond_false]; try simp only [h5, cond_true, cond_false]; try simp only [h6, cond_true, cond_false]; try simp only [h7, cond_true, cond_false]; try simp only [h8, cond_true, cond_false]; try simp only [h9, cond_true, cond_false]; try simp only [h10, cond_true, cond_false]; try rfl; done) | rfl) trivial))))))))))))))))))))))))))))))))))))))) h
                    | false =>
                      have h10p := of_decide_eq_false h10
                      try have := bd12 (by first | assumption | omega)
                      try have := bd18a (by first | assumption | omega) (by first | assumption | omega) (by first | assumption | omega)
                      try have := bd19x (by first | assumption | omega) (by first | assumption | omega) (by first | assumption | omega) (by first | assumption | omega)
                      try have := L9a.lenR0_0 _ _ _ (by assumption); (try simp only [List.length_nil] at this)
                      try have := L9a.leqR0_0 _ _ _ (by assumption); (try simp only [List.length_replicate] at this)
                      try have := IntWalk.i64_in (r19.v0 n g j1 j2 k p - 1) (by omega)
                      have o9 : (0 : Int) ≤ (p (IntKind.i64.wrap (r19.v0 n g j1 j2 k p - (1 : Int))).toNat).lo := by first | assumption | omega | (simp_all; done)
                      have o10 : (p (IntKind.i64.wrap (r19.v0 n g j1 j2 k p - (1 : Int))).toNat).lo + (↑(r19.v1 n g j1 j2 k p).length : Int) ≤ (↑n : Int) := by first | assumption | omega | (simp only [List.length_append, List.length_cons, List.length_nil, List.length_map]; omega) | (simp_all; done)
                      have o11 : (0 : Int) ≤ (↑(r19.v1 n g j1 j2 k p).length : Int) := by first | assumption | omega | (simp only [List.length_append, List.length_cons, List.length_nil, List.length_map]; omega) | (simp_all; done)
                      have o12 : (pks n g m f).length = n := by first | assumption | omega | (simp only [List.length_append, List.length_cons, List.length_nil, List.length_map]; omega) | (apply pks_len <;> first | assumption | omega) | (simp_all; done)
                      cases h11 : L9a.run (r19.v1 n g j1 j2 k p).length (fun (i : Nat) => (r19.v1 n g j1 j2 k p).getD i 0) (p (IntKind.i64.wrap (r19.v0 n g j1 j2 k p - 1)).toNat).lo 0 (pks n g m f) with
                      | e0 h11d0 =>
                        try have := bd12 (by first | assumption | omega)
                        try have := bd18a (by first | assumption | omega) (by first | assumption | omega) (by first | assumption | omega)
                        try have := bd19x (by first | assumption | omega) (by first | assumption | omega) (by first | assumption | omega) (by first | assumption | omega)
                        try have := L9a.lenR0_0 _ _ _ (by assumption); (try simp only [List.length_nil] at this)
                        try have := L9a.leqR0_0 _ _ _ (by assumption); (try simp only [List.length_replicate] at this)
                        have o13 : (0 : Nat) + n ≤ (Col.ints IntKind.i64 h11d0).len := by first | assumption | omega | (simp only [List.length_append, List.length_cons, List.length_nil, List.length_map]; omega) | rfl | (exact Nat.le_refl _) | (simp [Col.len]; done) | (simp only [Col.len, zero_bool, zero_int, List.length_replicate, List.length_set] at *; omega) | (simp_all; done)
                        exact Ret.of_run1 mix [(AV.bool (r9.v n g j1 j2 k p m f))] Try.func9 rfl [.ret (AV.bool true) (r9.h0 n g j1 j2 k p m f), .b false, .ret (AV.bool (r12.v n k)) (r9.h0 n g j1 j2 k p m f), .b false, .ret (AV.agg [AV.sl 2 n fun (i : Nat) => AV.agg [AV.int IntKind.i64 (g i).lo, AV.int IntKind.i64 (g i).hi], AV.int IntKind.i64 j1, AV.int IntKind.i64 j2, AV.sl 2 k fun (i : Nat) => AV.agg [AV.int IntKind.i64 (p i).lo, AV.int IntKind.i64 (p i).hi]]) (r9.h0 n g j1 j2 k p m f), .ret (AV.tup [AV.int IntKind.i64 (r19.v0 n g j1 j2 k p), AV.sl 1 (r19.v1 n g j1 j2 k p).length fun (a : Nat) => AV.int IntKind.i64 ((r19.v1 n g j1 j2 k p).getD a 0), AV.int IntKind.i64 (r19.v2 n g j1 j2 k p)]) (r9.h0 n g j1 j2 k p m f), .ret (AV.agg [AV.sl 2 n fun (i : Nat) => AV.agg [AV.int IntKind.i64 (g i).lo, AV.int IntKind.i64 (g i).hi], AV.int IntKind.i64 j1, AV.int IntKind.i64 j2, AV.sl 2 k fun (i : Nat) => AV.agg [AV.int IntKind.i64 (p i).lo, AV.int IntKind.i64 (p i).hi]]) (r9.h0 n g j1 j2 k p m f), .ret (AV.tup [AV.bool (r18.v0 n g j1 j2 k p), AV.int IntKind.i64 (r18.v1 n g j1 j2 k p)]) (r9.h0 n g j1 j2 k p m f), .b false, .b false, .b false, .b false, .b false, .b false, .b false, .b false, .b false, .b false, .b false, .b false, .b false, .b true, .ret (AV.ms 1 (v30 n g m f) 1 0 n) (r9.h1 n g j1 j2 k p m f), .b false, .b false, .b false, .b false, .b false, .b false, .b false, .b false, .b false, .b false, .b false, .b false, .loop (others 124 [2, 6, 10, 11, 12]) (Exit.exit 0) (L9a.X n g j1 j2 k p (v30 n g m f) (r19.v1 n g j1 j2 k p).length (fun (i : Nat) => (r19.v1 n g j1 j2 k p).getD i 0) (p (IntKind.i64.wrap (r19.v0 n g j1 j2 k p - 1)).toNat).lo (L9a.O.e0 h11d0)) (L9a.XH n g j1 j2 k p (v30 n g m f) (r19.v1 n g j1 j2 k p).length (fun (i : Nat) => (r19.v1 n g j1 j2 k p).getD i 0) (p (IntKind.i64.wrap (r19.v0 n g j1 j2 k p - 1)).toNat).lo (L9a.O.e0 h11d0)), .ret (AV.agg [AV.sl 2 n fun (i : Nat) => AV.agg [AV.int IntKind.i64 (g i).lo, AV.int IntKind.i64 (g i).hi], AV.int IntKind.i64 j1, AV.int IntKind.i64 j2, AV.sl 2 k fun (i : Nat) => AV.agg [AV.int IntKind.i64 (p i).lo, AV.int IntKind.i64 (p i).hi]]) ([AObj.var (AV.agg [AV.sl 2 n fun (i : Nat) => AV.agg [AV.int IntKind.i64 (g i).lo, AV.int IntKind.i64 (g i).hi], AV.int IntKind.i64 j1, AV.int IntKind.i64 j2, AV.sl 2 k fun (i : Nat) => AV.agg [AV.int IntKind.i64 (p i).lo, AV.int IntKind.i64 (p i).hi]]), AObj.row 1 (v30 n g m f) (Col.ints IntKind.i64 h11d0)]), .fret ([AV.agg [AV.sl 2 n fun (i : Nat) => AV.agg [AV.int IntKind.i64 (g i).lo, AV.int IntKind.i64 (g i).hi], AV.int IntKind.i64 j1, AV.int IntKind.i64 j2, AV.sl 2 k fun (i : Nat) => AV.agg [AV.int IntKind.i64 (p i).lo, AV.int IntKind.i64 (p i).hi]], AV.sl 1 n fun (a : Nat) => AV.int IntKind.i64 (h11d0.getD a 0)]) ([AObj.var (AV.agg [AV.sl 2 n fun (i : Nat) => AV.agg [AV.int IntKind.i64 (g i).lo, AV.int IntKind.i64 (g i).hi], AV.int IntKind.i64 j1, AV.int IntKind.i64 j2, AV.sl 2 k fun (i : Nat) => AV.agg [AV.int IntKind.i64 (p i).lo, AV.int IntKind.i64 (p i).hi]]), AObj.frow 1 (v30 n g m f) (Col.ints IntKind.i64 h11d0).len fun (a : Nat) => AV.int IntKind.i64 (h11d0.getD a 0)]) (AV.tup [AV.sl 1 (r22.v0 n g j1 j2 k p n fun (i : Nat) => h11d0.getD i 0).length fun (a : Nat) => AV.int IntKind.i64 ((r22.v0 n g j1 j2 k p n fun (i : Nat) => h11d0.getD i 0).getD a 0), AV.int IntKind.i64 (r22.v1 n g j1 j2 k p n fun (i : Nat) => h11d0.getD i 0)]) ([AObj.var (AV.agg [AV.sl 2 n fun (i : Nat) => AV.agg [AV.int IntKind.i64 (g i).lo, AV.int IntKind.i64 (g i).hi], AV.int IntKind.i64 j1, AV.int IntKind.i64 j2, AV.sl 2 k fun (i : Nat) => AV.agg [AV.int IntKind.i64 (p i).lo, AV.int IntKind.i64 (p i).hi]]), AObj.frow 1 (v30 n g m f) (Col.ints IntKind.i64 h11d0).len fun (a : Nat) => AV.int IntKind.i64 (h11d0.getD a 0)])] (by simp) (by simp) (kmp (by kernel_rfl) (And.intro (r11t (r9.h0 n g j1 j2 k p m f)) (And.intro (rfl : false = false) (And.intro (r12 (n) (g) (j1) (j2) (k) (p) (r9.h0 n g j1 j2 k p m f)) (And.intro (show (bnot (r12.v n k)) = false by rw [h1]; try rfl) (And.intro (c14 (n) (g) (j1) (j2) (k) (p) o0 (r9.h0 n g j1 j2 k p m f)) (And.intro (r19 (n) (g) o1 (j1) (j2) (k) (p) o0 (r9.h0 n g j1 j2 k p m f)) (And.intro (c14 (n) (g) (j1) (j2) (k) (p) o0 (r9.h0 n g j1 j2 k p m f)) (And.intro (r18 (n) (g) o1 (j1) (j2) (k) (p) o0 (r9.h0 n g j1 j2 k p m f)) (And.intro (show (bnot (r19.v2 n g j1 j2 k p == 0)) = false by rw [h2]; try rfl) (And.intro (show (bnot (r18.v1 n g j1 j2 k p == 0)) = false by rw [h3]; try rfl) (And.intro (show (bnot (r18.v1 n g j1 j2 k p == 0)) = false by rw [h3]; try rfl) (And.intro h4 (And.intro h4 (And.intro h4 (And.intro h5 (And.intro h5 (And.intro h5 (And.intro h5 (And.intro h5 (And.intro h5 (And.intro h6 (And.intro h7 (And.intro (And.intro o2 o3) (And.intro (c30o (n) (g) o4 (j1) (j2) (k) (p) o5 (m) (f) o6 (r9.h0 n g j1 j2 k p m f)) (And.intro (And.intro o7 o8) (And.intro (show (bnot ((↑(r19.v1 n g j1 j2 k p).length : Int) == IntKind.i64.wrap ((p (r19.v0 n g j1 j2 k p).toNat).lo - (p (IntKind.i64.wrap (r19.v0 n g j1 j2 k p - 1)).toNat).lo))) = false by rw [h8]; try rfl) (And.intro (show (bnot ((↑(r19.v1 n g j1 j2 k p).length : Int) == IntKind.i64.wrap ((p (r19.v0 n g j1 j2 k p).toNat).lo - (p (IntKind.i64.wrap (r19.v0 n g j1 j2 k p - 1)).toNat).lo))) = false by rw [h8]; try rfl) (And.intro (show (bnot ((↑(r19.v1 n g j1 j2 k p).length : Int) == IntKind.i64.wrap ((p (r19.v0 n g j1 j2 k p).toNat).lo - (p (IntKind.i64.wrap (r19.v0 n g j1 j2 k p - 1)).toNat).lo))) = false by rw [h8]; try rfl) (And.intro h9 (And.intro h9 (And.intro h9 (And.intro h9 (And.intro h9 (And.intro h9 (And.intro h9 (And.intro h9 (And.intro h10 (And.intro (L9a.e0 (n) (g) o4 (j1) (j2) (k) (p) (v30 n g m f) ((r19.v1 n g j1 j2 k p).length) (fun (i : Nat) => (r19.v1 n g j1 j2 k p).getD i 0) ((p (IntKind.i64.wrap (r19.v0 n g j1 j2 k p - 1)).toNat).lo) o9 o10 (0) (pks n g m f) (And.intro (And.intro (show (0 : Int) ≤ (0 : Int) by first | decide | exact Int.NonNeg.mk _) o11) o12) h11d0 h11) (And.intro (c14 (n) (g) (j1) (j2) (k) (p) o0 ([AObj.var (AV.agg [AV.sl 2 n fun (i : Nat) => AV.agg [AV.int IntKind.i64 (g i).lo, AV.int IntKind.i64 (g i).hi], AV.int IntKind.i64 j1, AV.int IntKind.i64 j2, AV.sl 2 k fun (i : Nat) => AV.agg [AV.int IntKind.i64 (p i).lo, AV.int IntKind.i64 (p i).hi]]), AObj.row 1 (v30 n g m f) (Col.ints IntKind.i64 h11d0)])) (And.intro (show Weak 2 ([AV.agg [AV.sl 2 n fun (i : Nat) => AV.agg [AV.int IntKind.i64 (g i).lo, AV.int IntKind.i64 (g i).hi], AV.int IntKind.i64 j1, AV.int IntKind.i64 j2, AV.sl 2 k fun (i : Nat) => AV.agg [AV.int IntKind.i64 (p i).lo, AV.int IntKind.i64 (p i).hi]], AV.ms 1 (v30 n g m f) 1 0 n]) ([AObj.var (AV.agg [AV.sl 2 n fun (i : Nat) => AV.agg [AV.int IntKind.i64 (g i).lo, AV.int IntKind.i64 (g i).hi], AV.int IntKind.i64 j1, AV.int IntKind.i64 j2, AV.sl 2 k fun (i : Nat) => AV.agg [AV.int IntKind.i64 (p i).lo, AV.int IntKind.i64 (p i).hi]]), AObj.row 1 (v30 n g m f) (Col.ints IntKind.i64 h11d0)]) ([AV.agg [AV.sl 2 n fun (i : Nat) => AV.agg [AV.int IntKind.i64 (g i).lo, AV.int IntKind.i64 (g i).hi], AV.int IntKind.i64 j1, AV.int IntKind.i64 j2, AV.sl 2 k fun (i : Nat) => AV.agg [AV.int IntKind.i64 (p i).lo, AV.int IntKind.i64 (p i).hi]], AV.sl 1 n fun (a : Nat) => AV.int IntKind.i64 (h11d0.getD a 0)]) ([AObj.var (AV.agg [AV.sl 2 n fun (i : Nat) => AV.agg [AV.int IntKind.i64 (g i).lo, AV.int IntKind.i64 (g i).hi], AV.int IntKind.i64 j1, AV.int IntKind.i64 j2, AV.sl 2 k fun (i : Nat) => AV.agg [AV.int IntKind.i64 (p i).lo, AV.int IntKind.i64 (p i).hi]]), AObj.frow 1 (v30 n g m f) (Col.ints IntKind.i64 h11d0).len fun (a : Nat) => AV.int IntKind.i64 (h11d0.getD a 0)]) from Weak.frz (id := 1) (n := v30 n g m f) (sz := 1) (c := Col.ints IntKind.i64 h11d0) rfl (And.intro (Or.inl (frz_same _)) (And.intro (Or.inl (frz_all (c := Col.ints IntKind.i64 h11d0) (off := 0) (len := n) o13)) trivial))) (And.intro (r22 (n) (g) o1 (j1) (j2) (k) (p) o0 (n) (fun (i : Nat) => h11d0.getD i 0) o1 ([AObj.var (AV.agg [AV.sl 2 n fun (i : Nat) => AV.agg [AV.int IntKind.i64 (g i).lo, AV.int IntKind.i64 (g i).hi], AV.int IntKind.i64 j1, AV.int IntKind.i64 j2, AV.sl 2 k fun (i : Nat) => AV.agg [AV.int IntKind.i64 (p i).lo, AV.int IntKind.i64 (p i).hi]]), AObj.frow 1 (v30 n g m f) (Col.ints IntKind.i64 h11d0).len fun (a : Nat) => AV.int IntKind.i64 (h11d0.getD a 0)])) (And.intro (show (AV.bool ((r22.v1 n g j1 j2 k p n fun (i : Nat) => h11d0.getD i 0) == 10)) = ((AV.bool (r9.v n g j1 j2 k p m f))) by first | (simp only [r9.v, h1, h2, h3, h4, h5, h6, h7, h8, h9, h10, h11, cond_true, cond_false]; done) | (try unfold r9.v; try simp only [h1, cond_true, cond_false]; try simp only [h2, cond_true, cond_false]; try simp only [h3, cond_true, cond_false]; try simp only [h4, cond_true, cond_false]; try simp only [h5, cond_true, cond_false]; try simp only [h6, cond_true, cond_false]; try simp only [h7, cond_true, cond_false]; try simp only [h8, cond_true, cond_false]; try simp only [h9, cond_true, cond_false]; try simp only [h10, cond_true, cond_false]; try simp only [h11, cond_true, cond_false]; try rfl; done) | rfl) trivial))))))))))))))))))))))))))))))))))))))))))) h
                | false =>
                  have h8p := ne_of_beq_false h8
                  exact Ret.of_run1 mix [(AV.bool (r9.v n g j1 j2 k p m f))] Try.func9 rfl [.ret (AV.bool true) (r9.h0 n g j1 j2 k p m f), .b false, .ret (AV.bool (r12.v n k)) (r9.h0 n g j1 j2 k p m f), .b false, .ret (AV.agg [AV.sl 2 n fun (i : Nat) => AV.agg [AV.int IntKind.i64 (g i).lo, AV.int IntKind.i64 (g i).hi], AV.int IntKind.i64 j1, AV.int IntKind.i64 j2, AV.sl 2 k fun (i : Nat) => AV.agg [AV.int IntKind.i64 (p i).lo, AV.int IntKind.i64 (p i).hi]]) (r9.h0 n g j1 j2 k p m f), .ret (AV.tup [AV.int IntKind.i64 (r19.v0 n g j1 j2 k p), AV.sl 1 (r19.v1 n g j1 j2 k p).length fun (a : Nat) => AV.int IntKind.i64 ((r19.v1 n g j1 j2 k p).getD a 0), AV.int IntKind.i64 (r19.v2 n g j1 j2 k p)]) (r9.h0 n g j1 j2 k p m f), .ret (AV.agg [AV.sl 2 n fun (i : Nat) => AV.agg [AV.int IntKind.i64 (g i).lo, AV.int IntKind.i64 (g i).hi], AV.int IntKind.i64 j1, AV.int IntKind.i64 j2, AV.sl 2 k fun (i : Nat) => AV.agg [AV.int IntKind.i64 (p i).lo, AV.int IntKind.i64 (p i).hi]]) (r9.h0 n g j1 j2 k p m f), .ret (AV.tup [AV.bool (r18.v0 n g j1 j2 k p), AV.int IntKind.i64 (r18.v1 n g j1 j2 k p)]) (r9.h0 n g j1 j2 k p m f), .b false, .b false, .b false, .b false, .b false, .b false, .b false, .b false, .b false, .b false, .b false, .b false, .b false, .b true, .ret (AV.ms 1 (v30 n g m f) 1 0 n) (r9.h1 n g j1 j2 k p m f), .b true, .b true, .b true, .b true, .b true, .b true, .b true, .b true, .b true, .b true, .b true, .b true] (by simp) (by simp) (kmp (by kernel_rfl) (And.intro (r11t (r9.h0 n g j1 j2 k p m f)) (And.intro (rfl : false = false) (And.intro (r12 (n) (g) (j1) (j2) (k) (p) (r9.h0 n g j1 j2 k p m f)) (And.intro (show (bnot (r12.v n k)) = false by rw [h1]; try rfl) (And.intro (c14 (n) (g) (j1) (j2) (k) (p) o0 (r9.h0 n g j1 j2 k p m f)) (And.intro (r19 (n) (g) o1 (j1) (j2) (k) (p) o0 (r9.h0 n g j1 j2 k p m f)) (And.intro (c14 (n) (g) (j1) (j2) (k) (p) o0 (r9.h0 n g j1 j2 k p m f)) (And.intro (r18 (n) (g) o1 (j1) (j2) (k) (p) o0 (r9.h0 n g j1 j2 k p m f)) (And.intro (show (bnot (r19.v2 n g j1 j2 k p == 0)) = false by rw [h2]; try rfl) (And.intro (show (bnot (r18.v1 n g j1 j2 k p == 0)) = false by rw [h3]; try rfl) (And.intro (show (bnot (r18.v1 n g j1 j2 k p == 0)) = false by rw [h3]; try rfl) (And.intro h4 (And.intro h4 (And.intro h4 (And.intro h5 (And.intro h5 (And.intro h5 (And.intro h5 (And.intro h5 (And.intro h5 (And.intro h6 (And.intro h7 (And.intro (And.intro o2 o3) (And.intro (c30o (n) (g) o4 (j1) (j2) (k) (p) o5 (m) (f) o6 (r9.h0 n g j1 j2 k p m f)) (And.intro (And.intro o7 o8) (And.intro (show (bnot ((↑(r19.v1 n g j1 j2 k p).length : Int) == IntKind.i64.wrap ((p (r19.v0 n g j1 j2 k p).toNat).lo - (p (IntKind.i64.wrap (r19.v0 n g j1 j2 k p - 1)).toNat).lo))) = true by rw [h8]; try rfl) (And.intro (show (bnot ((↑(r19.v1 n g j1 j2 k p).length : Int) == IntKind.i64.wrap ((p (r19.v0 n g j1 j2 k p).toNat).lo - (p (IntKind.i64.wrap (r19.v0 n g j1 j2 k p - 1)).toNat).lo))) = true by rw [h8]; try rfl) (And.intro (show (bnot ((↑(r19.v1 n g j1 j2 k p).length : Int) == IntKind.i64.wrap ((p (r19.v0 n g j1 j2 k p).toNat).lo - (p (IntKind.i64.wrap (r19.v0 n g j1 j2 k p - 1)).toNat).lo))) = true by rw [h8]; try rfl) (And.intro (rfl : true = true) (And.intro (rfl : true = true) (And.intro (rfl : true = true) (And.intro (rfl : true = true) (And.intro (rfl : true = true) (And.intro (rfl : true = true) (And.intro (rfl : true = true) (And.intro (rfl : true = true) (And.intro (rfl : true = true) (And.intro (show (AV.bool false) = ((AV.bool (r9.v n g j1 j2 k p m f))) by first | (simp only [r9.v, h1, h2, h3, h4, h5, h6, h7, h8, cond_true, cond_false]; done) | (try unfold r9.v; try simp only [h1, cond_true, cond_false]; try simp only [h2, cond_true, cond_false]; try simp only [h3, cond_true, cond_false]; try simp only [h4, cond_true, cond_false]; try simp only [h5, cond_true, cond_false]; try simp only [h6, cond_true, cond_false]; try simp only [h7, cond_true, cond_false]; try simp only [h8, cond_true, cond_false]; try rfl; done) | rfl) trivial))))))))))))))))))))))))))))))))))))))) h
              | false =>
                have h7p := of_decide_eq_false h7
                try have := bd12 (by first | assumption | omega)
                try have := bd18a (by first | assumption | omega) (by first | assumption | omega) (by first | assumption | omega)
                try have := bd19x (by first | assumption | omega) (by first | assumption | omega) (by first | assumption | omega) (by first | assumption | omega)
                have o4 : n ≤ (512 : Nat) := by first | assumption | omega | (simp_all; done)
                have o5 : ROk n g j1 j2 k p := by first | assumption | (apply ok18b <;> first | assumption | omega) | (simp_all; done)
                have o6 : m ≤ (9223372036854775807 : Nat) := by first | assumption | omega | (simp_all; done)
                have o7 : (0 : Int) ≤ r19.v0 n g j1 j2 k p := by first | assumption | omega | (simp_all; done)
                have o8 : r19.v0 n g j1 j2 k p < (↑k : Int) := by first | assumption | omega | (simp_all; done)
                cases h8 : (↑(r19.v1 n g j1 j2 k p).length : Int) == IntKind.i64.wrap ((p (r19.v0 n g j1 j2 k p).toNat).lo - 0) with
                | true =>
                  have h8p := eq_of_beq h8
                  cases h9 : decide (0 > IntKind.i64.wrap ((↑n : Int) - (↑(r19.v1 n g j1 j2 k p).length : Int))) with
                  | true =>
                    have h9p := of_decide_eq_true h9
                    exact Ret.of_run1 mix [(AV.bool (r9.v n g j1 j2 k p m f))] Try.func9 rfl [.ret (AV.bool true) (r9.h0 n g j1 j2 k p m f), .b false, .ret (AV.bool (r12.v n k)) (r9.h0 n g j1 j2 k p m f), .b false, .ret (AV.agg [AV.sl 2 n fun (i : Nat) => AV.agg [AV.int IntKind.i64 (g i).lo, AV.int IntKind.i64 (g i).hi], AV.int IntKind.i64 j1, AV.int IntKind.i64 j2, AV.sl 2 k fun (i : Nat) => AV.agg [AV.int IntKind.i64 (p i).lo, AV.int IntKind.i64 (p i).hi]]) (r9.h0 n g j1 j2 k p m f), .ret (AV.tup [AV.int IntKind.i64 (r19.v0 n g j1 j2 k p), AV.sl 1 (r19.v1 n g j1 j2 k p).length fun (a : Nat) => AV.int IntKind.i64 ((r19.v1 n g j1 j2 k p).getD a 0), AV.int IntKind.i64 (r19.v2 n g j1 j2 k p)]) (r9.h0 n g j1 j2 k p m f), .ret (AV.agg [AV.sl 2 n fun (i : Nat) => AV.agg [AV.int IntKind.i64 (g i).lo, AV.int IntKind.i64 (g i).hi], AV.int IntKind.i64 j1, AV.int IntKind.i64 j2, AV.sl 2 k fun (i : Nat) => AV.agg [AV.int IntKind.i64 (p i).lo, AV.int IntKind.i64 (p i).hi]]) (r9.h0 n g j1 j2 k p m f), .ret (AV.tup [AV.bool (r18.v0 n g j1 j2 k p), AV.int IntKind.i64 (r18.v1 n g j1 j2 k p)]) (r9.h0 n g j1 j2 k p m f), .b false, .b false, .b false, .b false, .b false, .b false, .b false, .b false, .b false, .b false, .b false, .b false, .b false, .b false, .ret (AV.ms 1 (v30 n g m f) 1 0 n) (r9.h1 n g j1 j2 k p m f), .b false, .b false, .b false, .b false, .b false, .b false, .b false, .b false, .b false, .b false, .b false, .b true] (by simp) (by simp) (kmp (by kernel_rfl) (And.intro (r11t (r9.h0 n g j1 j2 k p m f)) (And.intro (rfl : false = false) (And.intro (r12 (n) (g) (j1) (j2) (k) (p) (r9.h0 n g j1 j2 k p m f)) (And.intro (show (bnot (r12.v n k)) = false by rw [h1]; try rfl) (And.intro (c14 (n) (g) (j1) (j2) (k) (p) o0 (r9.h0 n g j1 j2 k p m f)) (And.intro (r19 (n) (g) o1 (j1) (j2) (k) (p) o0 (r9.h0 n g j1 j2 k p m f)) (And.intro (c14 (n) (g) (j1) (j2) (k) (p) o0 (r9.h0 n g j1 j2 k p m f)) (And.intro (r18 (n) (g) o1 (j1) (j2) (k) (p) o0 (r9.h0 n g j1 j2 k p m f)) (And.intro (show (bnot (r19.v2 n g j1 j2 k p == 0)) = false by rw [h2]; try rfl) (And.intro (show (bnot (r18.v1 n g j1 j2 k p == 0)) = false by rw [h3]; try rfl) (And.intro (show (bnot (r18.v1 n g j1 j2 k p == 0)) = false by rw [h3]; try rfl) (And.intro h4 (And.intro h4 (And.intro h4 (And.intro h5 (And.intro h5 (And.intro h5 (And.intro h5 (And.intro h5 (And.intro h5 (And.intro h6 (And.intro h7 (And.intro (c30o (n) (g) o4 (j1) (j2) (k) (p) o5 (m) (f) o6 (r9.h0 n g j1 j2 k p m f)) (And.intro (And.intro o7 o8) (And.intro (show (bnot ((↑(r19.v1 n g j1 j2 k p).length : Int) == IntKind.i64.wrap ((p (r19.v0 n g j1 j2 k p).toNat).lo - 0))) = false by rw [h8]; try rfl) (And.intro (show (bnot ((↑(r19.v1 n g j1 j2 k p).length : Int) == IntKind.i64.wrap ((p (r19.v0 n g j1 j2 k p).toNat).lo - 0))) = false by rw [h8]; try rfl) (And.intro (show (bnot ((↑(r19.v1 n g j1 j2 k p).length : Int) == IntKind.i64.wrap ((p (r19.v0 n g j1 j2 k p).toNat).lo - 0))) = false by rw [h8]; try rfl) (And.intro (rfl : false = false) (And.intro (rfl : false = false) (And.intro (rfl : false = false) (And.intro (rfl : false = false) (And.intro (rfl : false = false) (And.intro (rfl : false = false) (And.intro (rfl : false = false) (And.intro (rfl : false = false) (And.intro h9 (And.intro (show (AV.bool false) = ((AV.bool (r9.v n g j1 j2 k p m f))) by first | (simp only [r9.v, h1, h2, h3, h4, h5, h6, h7, h8, h9, cond_true, cond_false]; done) | (try unfold r9.v; try simp only [h1, cond_true, cond_false]; try simp only [h2, cond_true, cond_false]; try simp only [h3, cond_true, cond_false]; try simp only [h4, cond_true, cond_false]; try simp only [h5, cond_true, cond_false]; try simp only [h6, cond_true, cond_false]; try simp only [h7, cond_true, cond_false]; try simp only [h8, cond_true, cond_false]; try simp only [h9, cond_true, cond_false]; try rfl; done) | rfl) trivial)))))))))))))))))))))))))))))))))))))) h
                  | false =>
                    have h9p := of_decide_eq_false h9
                    try have := bd12 (by first | assumption | omega)
                    try have := bd18a (by first | assumption | omega) (by first | assumption | omega) (by first | assumption | omega)
                    try have := bd19x (by first | assumption | omega) (by first | assumption | omega) (by first | assumption | omega) (by first | assumption | omega)
                    try have := L9a.lenR0_0 _ _ _ (by assumption); (try simp only [List.length_nil] at this)
                    try have := L9a.leqR0_0 _ _ _ (by assumption); (try simp only [List.length_replicate] at this)
                    have o14 : (0 : Int) + (↑(r19.v1 n g j1 j2 k p).length : Int) ≤ (↑n : Int) := by first | assumption | omega | (simp only [List.length_append, List.length_cons, List.length_nil, List.length_map]; omega) | (simp_all; done)
                    have o11 : (0 : Int) ≤ (↑(r19.v1 n g j1 j2 k p).length : Int) := by first | assumption | omega | (simp only [List.length_append, List.length_cons, List.length_nil, List.length_map]; omega) | (simp_all; done)
                    have o12 : (pks n g m f).length = n := by first | assumption | omega | (simp only [List.length_append, List.length_cons, List.length_nil, List.length_map]; omega) | (apply pks_len <;> first | assumption | omega) | (simp_all; done)
                    cases h10 : L9a.run (r19.v1 n g j1 j2 k p).length (fun (i : Nat) => (r19.v1 n g j1 j2 k p).getD i 0) 0 0 (pks n g m f) with
                    | e0 h10d0 =>
                      try have := bd12 (by first | assumption | omega)
                      try have := bd18a (by first | assumption | omega) (by first | assumption | omega) (by first | assumption | omega)
                      try have := bd19x (by first | assumption | omega) (by first | assumption | omega) (by first | assumption | omega) (by first | assumption | omega)
                      try have := L9a.lenR0_0 _ _ _ (by assumption); (try simp only [List.length_nil] at this)
                      try have := L9a.leqR0_0 _ _ _ (by assumption); (try simp only [List.length_replicate] at this)
                      have o15 : (0 : Nat) + n ≤ (Col.ints IntKind.i64 h10d0).len := by first | assumption | omega | (simp only [List.length_append, List.length_cons, List.length_nil, List.length_map]; omega) | rfl | (exact Nat.le_refl _) | (simp [Col.len]; done) | (simp only [Col.len, zero_bool, zero_int, List.length_replicate, List.length_set] at *; omega) | (simp_all; done)
                      exact Ret.of_run1 mix [(AV.bool (r9.v n g j1 j2 k p m f))] Try.func9 rfl [.ret (AV.bool true) (r9.h0 n g j1 j2 k p m f), .b false, .ret (AV.bool (r12.v n k)) (r9.h0 n g j1 j2 k p m f), .b false, .ret (AV.agg [AV.sl 2 n fun (i : Nat) => AV.agg [AV.int IntKind.i64 (g i).lo, AV.int IntKind.i64 (g i).hi], AV.int IntKind.i64 j1, AV.int IntKind.i64 j2, AV.sl 2 k fun (i : Nat) => AV.agg [AV.int IntKind.i64 (p i).lo, AV.int IntKind.i64 (p i).hi]]) (r9.h0 n g j1 j2 k p m f), .ret (AV.tup [AV.int IntKind.i64 (r19.v0 n g j1 j2 k p), AV.sl 1 (r19.v1 n g j1 j2 k p).length fun (a : Nat) => AV.int IntKind.i64 ((r19.v1 n g j1 j2 k p).getD a 0), AV.int IntKind.i64 (r19.v2 n g j1 j2 k p)]) (r9.h0 n g j1 j2 k p m f), .ret (AV.agg [AV.sl 2 n fun (i : Nat) => AV.agg [AV.int IntKind.i64 (g i).lo, AV.int IntKind.i64 (g i).hi], AV.int IntKind.i64 j1, AV.int IntKind.i64 j2, AV.sl 2 k fun (i : Nat) => AV.agg [AV.int IntKind.i64 (p i).lo, AV.int IntKind.i64 (p i).hi]]) (r9.h0 n g j1 j2 k p m f), .ret (AV.tup [AV.bool (r18.v0 n g j1 j2 k p), AV.int IntKind.i64 (r18.v1 n g j1 j2 k p)]) (r9.h0 n g j1 j2 k p m f), .b false, .b false, .b false, .b false, .b false, .b false, .b false, .b false, .b false, .b false, .b false, .b false, .b false, .b false, .ret (AV.ms 1 (v30 n g m f) 1 0 n) (r9.h1 n g j1 j2 k p m f), .b false, .b false, .b false, .b false, .b false, .b false, .b false, .b false, .b false, .b false, .b false, .b false, .loop (others 124 [2, 6, 10, 11, 12]) (Exit.exit 0) (L9a.X n g j1 j2 k p (v30 n g m f) (r19.v1 n g j1 j2 k p).length (fun (i : Nat) => (r19.v1 n g j1 j2 k p).getD i 0) 0 (L9a.O.e0 h10d0)) (L9a.XH n g j1 j2 k p (v30 n g m f) (r19.v1 n g j1 j2 k p).length (fun (i : Nat) => (r19.v1 n g j1 j2 k p).getD i 0) 0 (L9a.O.e0 h10d0)), .ret (AV.agg [AV.sl 2 n fun (i : Nat) => AV.agg [AV.int IntKind.i64 (g i).lo, AV.int IntKind.i64 (g i).hi], AV.int IntKind.i64 j1, AV.int IntKind.i64 j2, AV.sl 2 k fun (i : Nat) => AV.agg [AV.int IntKind.i64 (p i).lo, AV.int IntKind.i64 (p i).hi]]) ([AObj.var (AV.agg [AV.sl 2 n fun (i : Nat) => AV.agg [AV.int IntKind.i64 (g i).lo, AV.int IntKind.i64 (g i).hi], AV.int IntKind.i64 j1, AV.int IntKind.i64 j2, AV.sl 2 k fun (i : Nat) => AV.agg [AV.int IntKind.i64 (p i).lo, AV.int IntKind.i64 (p i).hi]]), AObj.row 1 (v30 n g m f) (Col.ints IntKind.i64 h10d0)]), .fret ([AV.agg [AV.sl 2 n fun (i : Nat) => AV.agg [AV.int IntKind.i64 (g i).lo, AV.int IntKind.i64 (g i).hi], AV.int IntKind.i64 j1, AV.int IntKind.i64 j2, AV.sl 2 k fun (i : Nat) => AV.agg [AV.int IntKind.i64 (p i).lo, AV.int IntKind.i64 (p i).hi]], AV.sl 1 n fun (a : Nat) => AV.int IntKind.i64 (h10d0.getD a 0)]) ([AObj.var (AV.agg [AV.sl 2 n fun (i : Nat) => AV.agg [AV.int IntKind.i64 (g i).lo, AV.int IntKind.i64 (g i).hi], AV.int IntKind.i64 j1, AV.int IntKind.i64 j2, AV.sl 2 k fun (i : Nat) => AV.agg [AV.int IntKind.i64 (p i).lo, AV.int IntKind.i64 (p i).hi]]), AObj.frow 1 (v30 n g m f) (Col.ints IntKind.i64 h10d0).len fun (a : Nat) => AV.int IntKind.i64 (h10d0.getD a 0)]) (AV.tup [AV.sl 1 (r22.v0 n g j1 j2 k p n fun (i : Nat) => h10d0.getD i 0).length fun (a : Nat) => AV.int IntKind.i64 ((r22.v0 n g j1 j2 k p n fun (i : Nat) => h10d0.getD i 0).getD a 0), AV.int IntKind.i64 (r22.v1 n g j1 j2 k p n fun (i : Nat) => h10d0.getD i 0)]) ([AObj.var (AV.agg [AV.sl 2 n fun (i : Nat) => AV.agg [AV.int IntKind.i64 (g i).lo, AV.int IntKind.i64 (g i).hi], AV.int IntKind.i64 j1, AV.int IntKind.i64 j2, AV.sl 2 k fun (i : Nat) => AV.agg [AV.int IntKind.i64 (p i).lo, AV.int IntKind.i64 (p i).hi]]), AObj.frow 1 (v30 n g m f) (Col.ints IntKind.i64 h10d0).len fun (a : Nat) => AV.int IntKind.i64 (h10d0.getD a 0)])] (by simp) (by simp) (kmp (by kernel_rfl) (And.intro (r11t (r9.h0 n g j1 j2 k p m f)) (And.intro (rfl : false = false) (And.intro (r12 (n) (g) (j1) (j2) (k) (p) (r9.h0 n g j1 j2 k p m f)) (And.intro (show (bnot (r12.v n k)) = false by rw [h1]; try rfl) (And.intro (c14 (n) (g) (j1) (j2) (k) (p) o0 (r9.h0 n g j1 j2 k p m f)) (And.intro (r19 (n) (g) o1 (j1) (j2) (k) (p) o0 (r9.h0 n g j1 j2 k p m f)) (And.intro (c14 (n) (g) (j1) (j2) (k) (p) o0 (r9.h0 n g j1 j2 k p m f)) (And.intro (r18 (n) (g) o1 (j1) (j2) (k) (p) o0 (r9.h0 n g j1 j2 k p m f)) (And.intro (show (bnot (r19.v2 n g j1 j2 k p == 0)) = false by rw [h2]; try rfl) (And.intro (show (bnot (r18.v1 n g j1 j2 k p == 0)) = false by rw [h3]; try rfl) (And.intro (show (bnot (r18.v1 n g j1 j2 k p == 0)) = false by rw [h3]; try rfl) (And.intro h4 (And.intro h4 (And.intro h4 (And.intro h5 (And.intro h5 (And.intro h5 (And.intro h5 (And.intro h5 (And.intro h5 (And.intro h6 (And.intro h7 (And.intro (c30o (n) (g) o4 (j1) (j2) (k) (p) o5 (m) (f) o6 (r9.h0 n g j1 j2 k p m f)) (And.intro (And.intro o7 o8) (And.intro (show (bnot ((↑(r19.v1 n g j1 j2 k p).length : Int) == IntKind.i64.wrap ((p (r19.v0 n g j1 j2 k p).toNat).lo - 0))) = false by rw [h8]; try rfl) (And.intro (show (bnot ((↑(r19.v1 n g j1 j2 k p).length : Int) == IntKind.i64.wrap ((p (r19.v0 n g j1 j2 k p).toNat).lo - 0))) = false by rw [h8]; try rfl) (And.intro (show (bnot ((↑(r19.v1 n g j1 j2 k p).length : Int) == IntKind.i64.wrap ((p (r19.v0 n g j1 j2 k p).toNat).lo - 0))) = false by rw [h8]; try rfl) (And.intro (rfl : false = false) (And.intro (rfl : false = false) (And.intro (rfl : false = false) (And.intro (rfl : false = false) (And.intro (rfl : false = false) (And.intro (rfl : false = false) (And.intro (rfl : false = false) (And.intro (rfl : false = false) (And.intro h9 (And.intro (L9a.e0 (n) (g) o4 (j1) (j2) (k) (p) (v30 n g m f) ((r19.v1 n g j1 j2 k p).length) (fun (i : Nat) => (r19.v1 n g j1 j2 k p).getD i 0) (0) (show (0 : Int) ≤ (0 : Int) by first | decide | exact Int.NonNeg.mk _) o14 (0) (pks n g m f) (And.intro (And.intro (show (0 : Int) ≤ (0 : Int) by first | decide | exact Int.NonNeg.mk _) o11) o12) h10d0 h10) (And.intro (c14 (n) (g) (j1) (j2) (k) (p) o0 ([AObj.var (AV.agg [AV.sl 2 n fun (i : Nat) => AV.agg [AV.int IntKind.i64 (g i).lo, AV.int IntKind.i64 (g i).hi], AV.int IntKind.i64 j1, AV.int IntKind.i64 j2, AV.sl 2 k fun (i : Nat) => AV.agg [AV.int IntKind.i64 (p i).lo, AV.int IntKind.i64 (p i).hi]]), AObj.row 1 (v30 n g m f) (Col.ints IntKind.i64 h10d0)])) (And.intro (show Weak 2 ([AV.agg [AV.sl 2 n fun (i : Nat) => AV.agg [AV.int IntKind.i64 (g i).lo, AV.int IntKind.i64 (g i).hi], AV.int IntKind.i64 j1, AV.int IntKind.i64 j2, AV.sl 2 k fun (i : Nat) => AV.agg [AV.int IntKind.i64 (p i).lo, AV.int IntKind.i64 (p i).hi]], AV.ms 1 (v30 n g m f) 1 0 n]) ([AObj.var (AV.agg [AV.sl 2 n fun (i : Nat) => AV.agg [AV.int IntKind.i64 (g i).lo, AV.int IntKind.i64 (g i).hi], AV.int IntKind.i64 j1, AV.int IntKind.i64 j2, AV.sl 2 k fun (i : Nat) => AV.agg [AV.int IntKind.i64 (p i).lo, AV.int IntKind.i64 (p i).hi]]), AObj.row 1 (v30 n g m f) (Col.ints IntKind.i64 h10d0)]) ([AV.agg [AV.sl 2 n fun (i : Nat) => AV.agg [AV.int IntKind.i64 (g i).lo, AV.int IntKind.i64 (g i).hi], AV.int IntKind.i64 j1, AV.int IntKind.i64 j2, AV.sl 2 k fun (i : Nat) => AV.agg [AV.int IntKind.i64 (p i).lo, AV.int IntKind.i64 (p i).hi]], AV.sl 1 n fun (a : Nat) => AV.int IntKind.i64 (h10d0.getD a 0)]) ([AObj.var (AV.agg [AV.sl 2 n fun (i : Nat) => AV.agg [AV.int IntKind.i64 (g i).lo, AV.int IntKind.i64 (g i).hi], AV.int IntKind.i64 j1, AV.int IntKind.i64 j2, AV.sl 2 k fun (i : Nat) => AV.agg [AV.int IntKind.i64 (p i).lo, AV.int IntKind.i64 (p i).hi]]), AObj.frow 1 (v30 n g m f) (Col.ints IntKind.i64 h10d0).len fun (a : Nat) => AV.int IntKind.i64 (h10d0.getD a 0)]) from Weak.frz (id := 1) (n := v30 n g m f) (sz := 1) (c := Col.ints IntKind.i64 h10d0) rfl (And.intro (Or.inl (frz_same _)) (And.intro (Or.inl (frz_all (c := Col.ints IntKind.i64 h10d0) (off := 0) (len := n) o15)) trivial))) (And.intro (r22 (n) (g) o1 (j1) (j2) (k) (p) o0 (n) (fun (i : Nat) => h10d0.getD i 0) o1 ([AObj.var (AV.agg [AV.sl 2 n fun (i : Nat) => AV.agg [AV.int IntKind.i64 (g i).lo, AV.int IntKind.i64 (g i).hi], AV.int IntKind.i64 j1, AV.int IntKind.i64 j2, AV.sl 2 k fun (i : Nat) => AV.agg [AV.int IntKind.i64 (p i).lo, AV.int IntKind.i64 (p i).hi]]), AObj.frow 1 (v30 n g m f) (Col.ints IntKind.i64 h10d0).len fun (a : Nat) => AV.int IntKind.i64 (h10d0.getD a 0)])) (And.intro (show (AV.bool ((r22.v1 n g j1 j2 k p n fun (i : Nat) => h10d0.getD i 0) == 10)) = ((AV.bool (r9.v n g j1 j2 k p m f))) by first | (simp only [r9.v, h1, h2, h3, h4, h5, h6, h7, h8, h9, h10, cond_true, cond_false]; done) | (try unfold r9.v; try simp only [h1, cond_true, cond_false]; try simp only [h2, cond_true, cond_false]; try simp only [h3, cond_true, cond_false]; try simp only [h4, cond_true, cond_false]; try simp only [h5, cond_true, cond_false]; try simp only [h6, cond_true, cond_false]; try simp only [h7, cond_true, cond_false]; try simp only [h8, cond_true, cond_false]; try simp only [h9, cond_true, cond_false]; try simp only [h10, cond_true, cond_false]; try rfl; done) | rfl) trivial)))))))))))))))))))))))))))))))))))))))))) h
                | false =>
                  have h8p := ne_of_beq_false h8
                  exact Ret.of_run1 mix [(AV.bool (r9.v n g j1 j2 k p m f))] Try.func9 rfl [.ret (AV.bool true) (r9.h0 n g j1 j2 k p m f), .b false, .ret (AV.bool (r12.v n k)) (r9.h0 n g j1 j2 k p m f), .b false, .ret (AV.agg [AV.sl 2 n fun (i : Nat) => AV.agg [AV.int IntKind.i64 (g i).lo, AV.int IntKind.i64 (g i).hi], AV.int IntKind.i64 j1, AV.int IntKind.i64 j2, AV.sl 2 k fun (i : Nat) => AV.agg [AV.int IntKind.i64 (p i).lo, AV.int IntKind.i64 (p i).hi]]) (r9.h0 n g j1 j2 k p m f), .ret (AV.tup [AV.int IntKind.i64 (r19.v0 n g j1 j2 k p), AV.sl 1 (r19.v1 n g j1 j2 k p).length fun (a : Nat) => AV.int IntKind.i64 ((r19.v1 n g j1 j2 k p).getD a 0), AV.int IntKind.i64 (r19.v2 n g j1 j2 k p)]) (r9.h0 n g j1 j2 k p m f), .ret (AV.agg [AV.sl 2 n fun (i : Nat) => AV.agg [AV.int IntKind.i64 (g i).lo, AV.int IntKind.i64 (g i).hi], AV.int IntKind.i64 j1, AV.int IntKind.i64 j2, AV.sl 2 k fun (i : Nat) => AV.agg [AV.int IntKind.i64 (p i).lo, AV.int IntKind.i64 (p i).hi]]) (r9.h0 n g j1 j2 k p m f), .ret (AV.tup [AV.bool (r18.v0 n g j1 j2 k p), AV.int IntKind.i64 (r18.v1 n g j1 j2 k p)]) (r9.h0 n g j1 j2 k p m f), .b false, .b false, .b false, .b false, .b false, .b false, .b false, .b false, .b false, .b false, .b false, .b false, .b false, .b false, .ret (AV.ms 1 (v30 n g m f) 1 0 n) (r9.h1 n g j1 j2 k p m f), .b true, .b true, .b true, .b true, .b true, .b true, .b true, .b true, .b true, .b true, .b true, .b true] (by simp) (by simp) (kmp (by kernel_rfl) (And.intro (r11t (r9.h0 n g j1 j2 k p m f)) (And.intro (rfl : false = false) (And.intro (r12 (n) (g) (j1) (j2) (k) (p) (r9.h0 n g j1 j2 k p m f)) (And.intro (show (bnot (r12.v n k)) = false by rw [h1]; try rfl) (And.intro (c14 (n) (g) (j1) (j2) (k) (p) o0 (r9.h0 n g j1 j2 k p m f)) (And.intro (r19 (n) (g) o1 (j1) (j2) (k) (p) o0 (r9.h0 n g j1 j2 k p m f)) (And.intro (c14 (n) (g) (j1) (j2) (k) (p) o0 (r9.h0 n g j1 j2 k p m f)) (And.intro (r18 (n) (g) o1 (j1) (j2) (k) (p) o0 (r9.h0 n g j1 j2 k p m f)) (And.intro (show (bnot (r19.v2 n g j1 j2 k p == 0)) = false by rw [h2]; try rfl) (And.intro (show (bnot (r18.v1 n g j1 j2 k p == 0)) = false by rw [h3]; try rfl) (And.intro (show (bnot (r18.v1 n g j1 j2 k p == 0)) = false by rw [h3]; try rfl) (And.intro h4 (And.intro h4 (And.intro h4 (And.intro h5 (And.intro h5 (And.intro h5 (And.intro h5 (And.intro h5 (And.intro h5 (And.intro h6 (And.intro h7 (And.intro (c30o (n) (g) o4 (j1) (j2) (k) (p) o5 (m) (f) o6 (r9.h0 n g j1 j2 k p m f)) (And.intro (And.intro o7 o8) (And.intro (show (bnot ((↑(r19.v1 n g j1 j2 k p).length : Int) == IntKind.i64.wrap ((p (r19.v0 n g j1 j2 k p).toNat).lo - 0))) = true by rw [h8]; try rfl) (And.intro (show (bnot ((↑(r19.v1 n g j1 j2 k p).length : Int) == IntKind.i64.wrap ((p (r19.v0 n g j1 j2 k p).toNat).lo - 0))) = true by rw [h8]; try rfl) (And.intro (show (bnot ((↑(r19.v1 n g j1 j2 k p).length : Int) == IntKind.i64.wrap ((p (r19.v0 n g j1 j2 k p).toNat).lo - 0))) = true by rw [h8]; try rfl) (And.intro (rfl : true = true) (And.intro (rfl : true = true) (And.intro (rfl : true = true) (And.intro (rfl : true = true) (And.intro (rfl : true = true) (And.intro (rfl : true = true) (And.intro (rfl : true = true) (And.intro (rfl : true = true) (And.intro (rfl : true = true) (And.intro (show (AV.bool false) = ((AV.bool (r9.v n g j1 j2 k p m f))) by first | (simp only [r9.v, h1, h2, h3, h4, h5, h6, h7, h8, cond_true, cond_false]; done) | (try unfold r9.v; try simp only [h1, cond_true, cond_false]; try simp only [h2, cond_true, cond_false]; try simp only [h3, cond_true, cond_false]; try simp only [h4, cond_true, cond_false]; try simp only [h5, cond_true, cond_false]; try simp only [h6, cond_true, cond_false]; try simp only [h7, cond_true, cond_false]; try simp only [h8, cond_true, cond_false]; try rfl; done) | rfl) trivial)))))))))))))))))))))))))))))))))))))) h
      | false =>
        have h3p := ne_of_beq_false h3
        exact Ret.of_run1 mix [(AV.bool (r9.v n g j1 j2 k p m f))] Try.func9 rfl [.ret (AV.bool true) (r9.h0 n g j1 j2 k p m f), .b false, .ret (AV.bool (r12.v n k)) (r9.h0 n g j1 j2 k p m f), .b false, .ret (AV.agg [AV.sl 2 n fun (i : Nat) => AV.agg [AV.int IntKind.i64 (g i).lo, AV.int IntKind.i64 (g i).hi], AV.int IntKind.i64 j1, AV.int IntKind.i64 j2, AV.sl 2 k fun (i : Nat) => AV.agg [AV.int IntKind.i64 (p i).lo, AV.int IntKind.i64 (p i).hi]]) (r9.h0 n g j1 j2 k p m f), .ret (AV.tup [AV.int IntKind.i64 (r19.v0 n g j1 j2 k p), AV.sl 1 (r19.v1 n g j1 j2 k p).length fun (a : Nat) => AV.int IntKind.i64 ((r19.v1 n g j1 j2 k p).getD a 0), AV.int IntKind.i64 (r19.v2 n g j1 j2 k p)]) (r9.h0 n g j1 j2 k p m f), .ret (AV.agg [AV.sl 2 n fun (i : Nat) => AV.agg [AV.int IntKind.i64 (g i).lo, AV.int IntKind.i64 (g i).hi], AV.int IntKind.i64 j1, AV.int IntKind.i64 j2, AV.sl 2 k fun (i : Nat) => AV.agg [AV.int IntKind.i64 (p i).lo, AV.int IntKind.i64 (p i).hi]]) (r9.h0 n g j1 j2 k p m f), .ret (AV.tup [AV.bool (r18.v0 n g j1 j2 k p), AV.int IntKind.i64 (r18.v1 n g j1 j2 k p)]) (r9.h0 n g j1 j2 k p m f), .b false, .b true, .b true, .b true, .b true, .b true, .b true, .b true, .b true, .b true, .b true, .b true, .b true] (by simp) (by simp) (kmp (by kernel_rfl) (And.intro (r11t (r9.h0 n g j1 j2 k p m f)) (And.intro (rfl : false = false) (And.intro (r12 (n) (g) (j1) (j2) (k) (p) (r9.h0 n g j1 j2 k p m f)) (And.intro (show (bnot (r12.v n k)) = false by rw [h1]; try rfl) (And.intro (c14 (n) (g) (j1) (j2) (k) (p) o0 (r9.h0 n g j1 j2 k p m f)) (And.intro (r19 (n) (g) o1 (j1) (j2) (k) (p) o0 (r9.h0 n g j1 j2 k p m f)) (And.intro (c14 (n) (g) (j1) (j2) (k) (p) o0 (r9.h0 n g j1 j2 k p m f)) (And.intro (r18 (n) (g) o1 (j1) (j2) (k) (p) o0 (r9.h0 n g j1 j2 k p m f)) (And.intro (show (bnot (r19.v2 n g j1 j2 k p == 0)) = false by rw [h2]; try rfl) (And.intro (show (bnot (r18.v1 n g j1 j2 k p == 0)) = true by rw [h3]; try rfl) (And.intro (show (bnot (r18.v1 n g j1 j2 k p == 0)) = true by rw [h3]; try rfl) (And.intro (rfl : true = true) (And.intro (rfl : true = true) (And.intro (rfl : true = true) (And.intro (rfl : true = true) (And.intro (rfl : true = true) (And.intro (rfl : true = true) (And.intro (rfl : true = true) (And.intro (rfl : true = true) (And.intro (rfl : true = true) (And.intro (rfl : true = true) (And.intro (show (AV.bool false) = ((AV.bool (r9.v n g j1 j2 k p m f))) by first | (simp only [r9.v, h1, h2, h3, cond_true, cond_false]; done) | (try unfold r9.v; try simp only [h1, cond_true, cond_false]; try simp only [h2, cond_true, cond_false]; try simp only [h3, cond_true, cond_false]; try rfl; done) | rfl) trivial))))))))))))))))))))))) h
    | false =>
      have h2p := ne_of_beq_false h2
      cases h3 : r19.v0 n g j1 j2 k p == 0 with
      | true =>
        have h3p := eq_of_beq h3
        cases h4 : (↑(r19.v1 n g j1 j2 k p).length : Int) == 0 with
        | true =>
          have h4p := eq_of_beq h4
          exact Ret.of_run1 mix [(AV.bool (r9.v n g j1 j2 k p m f))] Try.func9 rfl [.ret (AV.bool true) (r9.h0 n g j1 j2 k p m f), .b false, .ret (AV.bool (r12.v n k)) (r9.h0 n g j1 j2 k p m f), .b false, .ret (AV.agg [AV.sl 2 n fun (i : Nat) => AV.agg [AV.int IntKind.i64 (g i).lo, AV.int IntKind.i64 (g i).hi], AV.int IntKind.i64 j1, AV.int IntKind.i64 j2, AV.sl 2 k fun (i : Nat) => AV.agg [AV.int IntKind.i64 (p i).lo, AV.int IntKind.i64 (p i).hi]]) (r9.h0 n g j1 j2 k p m f), .ret (AV.tup [AV.int IntKind.i64 (r19.v0 n g j1 j2 k p), AV.sl 1 (r19.v1 n g j1 j2 k p).length fun (a : Nat) => AV.int IntKind.i64 ((r19.v1 n g j1 j2 k p).getD a 0), AV.int IntKind.i64 (r19.v2 n g j1 j2 k p)]) (r9.h0 n g j1 j2 k p m f), .ret (AV.agg [AV.sl 2 n fun (i : Nat) => AV.agg [AV.int IntKind.i64 (g i).lo, AV.int IntKind.i64 (g i).hi], AV.int IntKind.i64 j1, AV.int IntKind.i64 j2, AV.sl 2 k fun (i : Nat) => AV.agg [AV.int IntKind.i64 (p i).lo, AV.int IntKind.i64 (p i).hi]]) (r9.h0 n g j1 j2 k p m f), .ret (AV.tup [AV.bool (r18.v0 n g j1 j2 k p), AV.int IntKind.i64 (r18.v1 n g j1 j2 k p)]) (r9.h0 n g j1 j2 k p m f), .b true, .b true, .b true, .b true, .b true, .b true, .b true, .b true, .b true, .b true] (by simp) (by simp) (kmp (by kernel_rfl) (And.intro (r11t (r9.h0 n g j1 j2 k p m f)) (And.intro (rfl : false = false) (And.intro (r12 (n) (g) (j1) (j2) (k) (p) (r9.h0 n g j1 j2 k p m f)) (And.intro (show (bnot (r12.v n k)) = false by rw [h1]; try rfl) (And.intro (c14 (n) (g) (j1) (j2) (k) (p) o0 (r9.h0 n g j1 j2 k p m f)) (And.intro (r19 (n) (g) o1 (j1) (j2) (k) (p) o0 (r9.h0 n g j1 j2 k p m f)) (And.intro (c14 (n) (g) (j1) (j2) (k) (p) o0 (r9.h0 n g j1 j2 k p m f)) (And.intro (r18 (n) (g) o1 (j1) (j2) (k) (p) o0 (r9.h0 n g j1 j2 k p m f)) (And.intro (show (bnot (r19.v2 n g j1 j2 k p == 0)) = true by rw [h2]; try rfl) (And.intro h3 (And.intro h3 (And.intro h3 (And.intro h3 (And.intro h4 (And.intro h4 (And.intro h4 (And.intro h4 (And.intro h4 (And.intro (show (AV.bool (r18.v0 n g j1 j2 k p == (r19.v2 n g j1 j2 k p == 9))) = ((AV.bool (r9.v n g j1 j2 k p m f))) by first | (simp only [r9.v, h1, h2, h3, h4, cond_true, cond_false]; done) | (try unfold r9.v; try simp only [h1, cond_true, cond_false]; try simp only [h2, cond_true, cond_false]; try simp only [h3, cond_true, cond_false]; try simp only [h4, cond_true, cond_false]; try rfl; done) | rfl) trivial)))))))))))))))))))) h
        | false =>
          have h4p := ne_of_beq_false h4
          exact Ret.of_run1 mix [(AV.bool (r9.v n g j1 j2 k p m f))] Try.func9 rfl [.ret (AV.bool true) (r9.h0 n g j1 j2 k p m f), .b false, .ret (AV.bool (r12.v n k)) (r9.h0 n g j1 j2 k p m f), .b false, .ret (AV.agg [AV.sl 2 n fun (i : Nat) => AV.agg [AV.int IntKind.i64 (g i).lo, AV.int IntKind.i64 (g i).hi], AV.int IntKind.i64 j1, AV.int IntKind.i64 j2, AV.sl 2 k fun (i : Nat) => AV.agg [AV.int IntKind.i64 (p i).lo, AV.int IntKind.i64 (p i).hi]]) (r9.h0 n g j1 j2 k p m f), .ret (AV.tup [AV.int IntKind.i64 (r19.v0 n g j1 j2 k p), AV.sl 1 (r19.v1 n g j1 j2 k p).length fun (a : Nat) => AV.int IntKind.i64 ((r19.v1 n g j1 j2 k p).getD a 0), AV.int IntKind.i64 (r19.v2 n g j1 j2 k p)]) (r9.h0 n g j1 j2 k p m f), .ret (AV.agg [AV.sl 2 n fun (i : Nat) => AV.agg [AV.int IntKind.i64 (g i).lo, AV.int IntKind.i64 (g i).hi], AV.int IntKind.i64 j1, AV.int IntKind.i64 j2, AV.sl 2 k fun (i : Nat) => AV.agg [AV.int IntKind.i64 (p i).lo, AV.int IntKind.i64 (p i).hi]]) (r9.h0 n g j1 j2 k p m f), .ret (AV.tup [AV.bool (r18.v0 n g j1 j2 k p), AV.int IntKind.i64 (r18.v1 n g j1 j2 k p)]) (r9.h0 n g j1 j2 k p m f), .b true, .b true, .b true, .b true, .b true, .b false, .b false, .b false, .b false, .b false] (by simp) (by simp) (kmp (by kernel_rfl) (And.intro (r11t (r9.h0 n g j1 j2 k p m f)) (And.intro (rfl : false = false) (And.intro (r12 (n) (g) (j1) (j2) (k) (p) (r9.h0 n g j1 j2 k p m f)) (And.intro (show (bnot (r12.v n k)) = false by rw [h1]; try rfl) (And.intro (c14 (n) (g) (j1) (j2) (k) (p) o0 (r9.h0 n g j1 j2 k p m f)) (And.intro (r19 (n) (g) o1 (j1) (j2) (k) (p) o0 (r9.h0 n g j1 j2 k p m f)) (And.intro (c14 (n) (g) (j1) (j2) (k) (p) o0 (r9.h0 n g j1 j2 k p m f)) (And.intro (r18 (n) (g) o1 (j1) (j2) (k) (p) o0 (r9.h0 n g j1 j2 k p m f)) (And.intro (show (bnot (r19.v2 n g j1 j2 k p == 0)) = true by rw [h2]; try rfl) (And.intro h3 (And.intro h3 (And.intro h3 (And.intro h3 (And.intro h4 (And.intro h4 (And.intro h4 (And.intro h4 (And.intro h4 (And.intro (show (AV.bool false) = ((AV.bool (r9.v n g j1 j2 k p m f))) by first | (simp only [r9.v, h1, h2, h3, h4, cond_true, cond_false]; done) | (try unfold r9.v; try simp only [h1, cond_true, cond_false]; try simp only [h2, cond_true, cond_false]; try simp only [h3, cond_true, cond_false]; try simp only [h4, cond_true, cond_false]; try rfl; done) | rfl) trivial)))))))))))))))))))) h
      | false =>
        have h3p := ne_of_beq_false h3
        exact Ret.of_run1 mix [(AV.bool (r9.v n g j1 j2 k p m f))] Try.func9 rfl [.ret (AV.bool true) (r9.h0 n g j1 j2 k p m f), .b false, .ret (AV.bool (r12.v n k)) (r9.h0 n g j1 j2 k p m f), .b false, .ret (AV.agg [AV.sl 2 n fun (i : Nat) => AV.agg [AV.int IntKind.i64 (g i).lo, AV.int IntKind.i64 (g i).hi], AV.int IntKind.i64 j1, AV.int IntKind.i64 j2, AV.sl 2 k fun (i : Nat) => AV.agg [AV.int IntKind.i64 (p i).lo, AV.int IntKind.i64 (p i).hi]]) (r9.h0 n g j1 j2 k p m f), .ret (AV.tup [AV.int IntKind.i64 (r19.v0 n g j1 j2 k p), AV.sl 1 (r19.v1 n g j1 j2 k p).length fun (a : Nat) => AV.int IntKind.i64 ((r19.v1 n g j1 j2 k p).getD a 0), AV.int IntKind.i64 (r19.v2 n g j1 j2 k p)]) (r9.h0 n g j1 j2 k p m f), .ret (AV.agg [AV.sl 2 n fun (i : Nat) => AV.agg [AV.int IntKind.i64 (g i).lo, AV.int IntKind.i64 (g i).hi], AV.int IntKind.i64 j1, AV.int IntKind.i64 j2, AV.sl 2 k fun (i : Nat) => AV.agg [AV.int IntKind.i64 (p i).lo, AV.int IntKind.i64 (p i).hi]]) (r9.h0 n g j1 j2 k p m f), .ret (AV.tup [AV.bool (r18.v0 n g j1 j2 k p), AV.int IntKind.i64 (r18.v1 n g j1 j2 k p)]) (r9.h0 n g j1 j2 k p m f), .b true, .b false, .b false, .b false, .b false, .b false, .b false, .b false, .b false, .b false] (by simp) (by simp) (kmp (by kernel_rfl) (And.intro (r11t (r9.h0 n g j1 j2 k p m f)) (And.intro (rfl : false = false) (And.intro (r12 (n) (g) (j1) (j2) (k) (p) (r9.h0 n g j1 j2 k p m f)) (And.intro (show (bnot (r12.v n k)) = false by rw [h1]; try rfl) (And.intro (c14 (n) (g) (j1) (j2) (k) (p) o0 (r9.h0 n g j1 j2 k p m f)) (And.intro (r19 (n) (g) o1 (j1) (j2) (k) (p) o0 (r9.h0 n g j1 j2 k p m f)) (And.intro (c14 (n) (g) (j1) (j2) (k) (p) o0 (r9.h0 n g j1 j2 k p m f)) (And.intro (r18 (n) (g) o1 (j1) (j2) (k) (p) o0 (r9.h0 n g j1 j2 k p m f)) (And.intro (show (bnot (r19.v2 n g j1 j2 k p == 0)) = true by rw [h2]; try rfl) (And.intro h3 (And.intro h3 (And.intro h3 (And.intro h3 (And.intro (rfl : false = false) (And.intro (rfl : false = false) (And.intro (rfl : false = false) (And.intro (rfl : false = false) (And.intro (rfl : false = false) (And.intro (show (AV.bool false) = ((AV.bool (r9.v n g j1 j2 k p m f))) by first | (simp only [r9.v, h1, h2, h3, cond_true, cond_false]; done) | (try unfold r9.v; try simp only [h1, cond_true, cond_false]; try simp only [h2, cond_true, cond_false]; try simp only [h3, cond_true, cond_false]; try rfl; done) | rfl) trivial)))))))))))))))))))) h
  | false =>
    exact Ret.of_run1 mix [(AV.bool (r9.v n g j1 j2 k p m f))] Try.func9 rfl [.ret (AV.bool true) (r9.h0 n g j1 j2 k p m f), .b false, .ret (AV.bool (r12.v n k)) (r9.h0 n g j1 j2 k p m f), .b true] (by simp) (by simp) (kmp (by kernel_rfl) (And.intro (r11t (r9.h0 n g j1 j2 k p m f)) (And.intro (rfl : false = false) (And.intro (r12 (n) (g) (j1) (j2) (k) (p) (r9.h0 n g j1 j2 k p m f)) (And.intro (show (bnot (r12.v n k)) = true by rw [h1]; try rfl) (And.intro (show (AV.bool true) = ((AV.bool (r9.v n g j1 j2 k p m f))) by first | (simp only [r9.v, h1, cond_true, cond_false]; done) | (try unfold r9.v; try simp only [h1, cond_true, cond_false]; try rfl; done) | rfl) trivial)))))) h

end Go.Proofs.Ytjdakdjgkpfjkaa

/- The law of parts that fail, in plain words. Conditions: none. -/
open Go
namespace Go.Proofs.Ytjdakdjgkpfjkaa
set_option linter.unusedVariables false
set_option linter.unusedSimpArgs false
variable {n : Nat} {g : Nat → PD} {j1 j2 : Int} {k : Nat} {p : Nat → PD} {m : Nat} {f l F : Nat → Int}

theorem r40_ne9 (a : Nat) (q : Nat → PD) (x : Int) : r40.v a q x ≠ 9 := by
  unfold r40.v
  cases (a : Int) == 0 with
  | true => exact fun h => by cases h
  | false =>
    cases (q (IntKind.i64.wrap ((a : Int) - 1)).toNat).lo == x with
    | false => exact fun h => by cases h
    | true =>
      cases L40a.run a q x 0 with
      | e0 => exact fun h => by cases h
      | e1 => cases r60.v a q <;> exact fun h => by cases h
theorem r16_ne9 : r16.v n g j1 j2 k p ≠ 9 := by
  unfold r16.v
  cases h1 : r36.v (n : Int) == 0 with
  | true =>
    cases r37.v n g with
    | true => exact fun h => by cases h
    | false => cases r39.v j1 j2 with
      | false => exact fun h => by cases h
      | true => exact r40_ne9 k p n
  | false =>
    unfold r36.v
    cases decide ((n : Int) > 512) with
    | true => exact fun h => by cases h
    | false => cases (n : Int) == 0 <;> exact fun h => by cases h

theorem set_get {xs : List Int} {c t : Nat} {v : Int} (hc : c < xs.length) : (xs.set c v).getD t 0 = if t = c then v else xs.getD t 0 := by
  rw [List.getD_eq_getElem?_getD, List.getD_eq_getElem?_getD, List.getElem?_set]
  by_cases e : c = t
  · subst e; rw [if_pos rfl, if_pos hc, if_pos rfl]; rfl
  · rw [if_neg e, if_neg fun h => e h.symm]

theorem L9_run {P u : Nat} (hn : n ≤ 512) (hP : u + P ≤ n) : ∀ q c (xs : List Int), c ≤ P → P - c < q → xs.length = n →
    ∃ R, L9a.N P l (u : Int) q (c : Int) xs = .e0 R ∧ R.length = n ∧ ∀ t, R.getD t 0 = if u + c ≤ t ∧ t < u + P then l (t - u) else xs.getD t 0 := by
  intro q
  induction q with
  | zero => intro c xs _ h; omega
  | succ q ih =>
    intro c xs hc hq hl
    simp only [L9a.N, Int.toNat_natCast, Nat.zero_add]
    by_cases h : c < P
    · have e : (IntKind.i64.wrap ((u : Int) + (c : Int))).toNat = u + c := by rw [i64_small (by omega)]; omega
      rw [decide_eq_true (show (c : Int) < (P : Int) by omega), wrap_succ (n := P) (by omega) h, e]
      simp only [cond_true]
      obtain ⟨R, e1, e2, e3⟩ := ih (c + 1) (xs.set (u + c) (l c)) h (by omega) (by rw [List.length_set]; exact hl)
      refine ⟨R, e1, e2, fun t => ?_⟩
      rw [e3 t, set_get (by omega)]
      by_cases h1 : t = u + c
      · subst h1
        rw [if_neg (by omega), if_pos rfl, if_pos (by omega), show u + c - u = c by omega]
      · rw [if_neg h1]
        by_cases h2 : u + (c + 1) ≤ t ∧ t < u + P
        · rw [if_pos h2, if_pos (by omega)]
        · rw [if_neg h2, if_neg (by omega)]
    · rw [decide_eq_false (by omega)]
      exact ⟨xs, rfl, hl, fun t => by rw [if_neg (by omega)]⟩

theorem outL_get {b : Bool} {u w t : Nat} (ht : t < w - u) : (outL b g u w).getD t 0 = bif b then (g (u + t)).hi else (g (u + t)).lo := by
  unfold outL
  simp [List.getD_eq_getElem?_getD, List.getElem?_range', ht]
theorem outL_len {b : Bool} {u w : Nat} : (outL b g u w).length = w - u := by simp [outL]

/-- With the lengths of a part that fails there are no widths. -/
theorem fails_10 (hr : ROk n g j1 j2 k p) (hk : k ≤ 30) (hz : r16.v n g j1 j2 k p = 0) {i : Nat} (hi : i < k) (hb : (long n g j1 p i || short n g j2 p i) = true)
    (hF : ∀ t, t < n → F t = if pa p i ≤ t ∧ t < pb p i then (bif long n g j1 p i then (g t).hi else (g t).lo) else pk g m f t) : r22.v1 n g j1 j2 k p n F = 10 := by
  have hab := pab hr.pl hi
  have ho : okL g n F = true := okL_intro fun t ht => by
    rw [hF t ht]
    have h2 := hr.l2 t ht
    split
    · cases long n g j1 p i <;> simp only [cond_true, cond_false] <;> omega
    · exact pk_bd hr ht
  have hbad : badJ n j1 j2 p F i = true := by
    unfold badJ
    cases hlo : long n g j1 p i with
    | true =>
      have e : sumB F (pa p i) (pb p i - pa p i) = sHi g (pa p i) (pb p i) := sumB_congr _ fun t h1 h2 => by
        rw [hF t (by omega), if_pos (by omega), hlo]; rfl
      unfold long at hlo
      have hlo := of_decide_eq_true hlo
      have : lft p F i < jb n p i * j1 := by unfold lft jb; rw [e]; omega
      rw [decide_eq_true this]; rfl
    | false =>
      rw [hlo] at hb
      have e : sumB F (pa p i) (pb p i - pa p i) = sLo g (pa p i) (pb p i) := sumB_congr _ fun t h1 h2 => by
        rw [hF t (by omega), if_pos (by omega), hlo]; rfl
      have hb : short n g j2 p i = true := by simpa using hb
      unfold short at hb
      have hb := of_decide_eq_true hb
      have : lft p F i > jb n p i * j2 := by unfold lft jb; rw [e]; omega
      rw [decide_eq_true this]; simp
  rcases r22_cases (f := F) hr hk hz with ⟨a1, _⟩ | ⟨_, _, _, a4⟩ | ⟨_, a2, _, _⟩
  · rw [ho] at a1; cases a1
  · exact a4
  · rw [a2 i hi] at hbad; cases hbad

theorem r9_true (hn : n ≤ 9223372036854775807) : r9.v n g j1 j2 k p m f = true := by
  unfold r9.v
  cases h12 : r12.v n k with
  | false => rfl
  | true =>
    simp only [cond_true]
    have hk := (bd12 h12).2
    rcases r18_cases (n := n) (g := g) (j1 := j1) (j2 := j2) (p := p) hn hk with ⟨a, b, hz⟩ | ⟨hr, hz, b, c⟩
    · have hz' : (r16.v n g j1 j2 k p == 0) = false := beq_eq_false_iff_ne.2 hz
      have e1 : r19.v2 n g j1 j2 k p = r16.v n g j1 j2 k p := by unfold r19.v2; rw [hz']; rfl
      have e2 : r19.v0 n g j1 j2 k p = 0 := by unfold r19.v0; rw [hz']; rfl
      have e3 : r19.v1 n g j1 j2 k p = [] := by unfold r19.v1; rw [hz']; rfl
      rw [e1, e2, e3, a, hz', show (r16.v n g j1 j2 k p == 9) = false from beq_eq_false_iff_ne.2 r16_ne9]
      rfl
    · have hle := hr.le
      rcases r19_cases hr hk hz with ⟨a1, a2, a3, a4⟩ | ⟨i, hi, a1, a2, a3, a4, a5⟩
      · have : anyN k (fun i => long n g j1 p i || short n g j2 p i) = false := anyN_false.2 fun i hi => by rw [(a1 i hi).1, (a1 i hi).2]; rfl
        rw [a2, a3, a4, c, this]; rfl
      · have : anyN k (fun i => long n g j1 p i || short n g j2 p i) = true := anyN_true.2 ⟨i, hi, a1⟩
        have hab := pab hr.pl hi
        have hlo := hr.pl.lo i hi
        have hpb : (p i).lo = (pb p i : Int) := by unfold pb; omega
        rw [a3, a4, a5, c, this, b, outL_len]
        simp only [beq_self_eq_true, cond_true, cond_false, Bool.not_true, Int.toNat_natCast]
        rw [decide_eq_false (show ¬ (i : Int) < 0 by omega), decide_eq_false (show ¬ (i : Int) ≥ (k : Int) by omega)]
        simp only [cond_false]
        have w2 : IntKind.i64.wrap ((n : Int) - ((pb p i - pa p i : Nat) : Int)) = (n : Int) - ((pb p i - pa p i : Nat) : Int) := i64_small (by omega)
        have run : ∃ R, L9a.run (pb p i - pa p i) (fun t => (outL (long n g j1 p i) g (pa p i) (pb p i)).getD t 0) ((pa p i : Nat) : Int) 0 (pks n g m f) = .e0 R ∧ r22.v1 n g j1 j2 k p n (fun t => R.getD t 0) = 10 := by
          obtain ⟨R, e1, e2, e3⟩ := L9_run (l := fun t => (outL (long n g j1 p i) g (pa p i) (pb p i)).getD t 0) (P := pb p i - pa p i) (u := pa p i) hle (by omega) ((((pb p i - pa p i : Nat) : Int) - 0).toNat + 1) 0 (pks n g m f) (Nat.zero_le _) (by omega) pks_len
          refine ⟨R, e1, fails_10 (m := m) (f := f) hr hk hz hi a1 fun t ht => ?_⟩
          show R.getD t 0 = _
          rw [e3 t]
          by_cases h1 : pa p i ≤ t ∧ t < pb p i
          · rw [if_pos (by omega), if_pos h1, outL_get (by omega), show pa p i + (t - pa p i) = t by omega]
          · rw [if_neg (by omega), if_neg h1, pks_get ht]
        obtain ⟨R, r1, r2⟩ := run
        by_cases h0 : i = 0
        · have hpa : pa p i = 0 := by rw [h0]; rfl
          rw [decide_eq_false (show ¬ (i : Int) > 0 by omega)]
          rw [hpa] at r1 ⊢
          rw [hpa] at w2
          simp only [cond_false, w2, hpb]
          rw [i64_small (by omega), show (((pb p i - 0 : Nat) : Int) == (pb p i : Int) - 0) = true from beq_iff_eq.2 (by omega), decide_eq_false (show ¬ (0 : Int) > (n : Int) - ((pb p i - 0 : Nat) : Int) by omega)]
          simp only [cond_true, cond_false]
          have r1' : L9a.run (pb p i - 0) (fun t => (outL (long n g j1 p i) g 0 (pb p i)).getD t 0) 0 0 (pks n g m f) = .e0 R := r1
          rw [r1']
          simp only [r2]; rfl
        · have hlo1 := hr.pl.lo (i - 1) (by omega)
          have hpa : (p (i - 1)).lo = (pa p i : Int) := by unfold pa; rw [if_neg h0]; omega
          have ei : (IntKind.i64.wrap ((i : Int) - 1)).toNat = i - 1 := pred_idx (n := k) (by omega) hi (by omega)
          rw [decide_eq_true (show (i : Int) > 0 by omega)]
          simp only [cond_true, ei, hpa, hpb, w2]
          rw [i64_small (by omega), show (((pb p i - pa p i : Nat) : Int) == (pb p i : Int) - (pa p i : Int)) = true from beq_iff_eq.2 (by omega), decide_eq_false (show ¬ ((pa p i : Nat) : Int) < 0 by omega), decide_eq_false (show ¬ ((pa p i : Nat) : Int) > (n : Int) - ((pb p i - pa p i : Nat) : Int) by omega)]
          simp only [cond_true, cond_false]
          rw [r1]
          simp only [r2]; rfl
end Go.Proofs.Ytjdakdjgkpfjkaa

/- ToleranceFails: whatever the input, the law hands back true. Conditions: none. -/
open Go
namespace Go.Proofs.Ytjdakdjgkpfjkaa
open Go.ChangeShapes Go.WideShapes Go.ChangeAt Go.RowKit

set_option maxRecDepth 100000 in
theorem law9 (xs : List AV) (h : FitsA Try.prog 5 [27, 43] xs) : Ret Try.prog 9 xs [] (.bool true) [] := by
  obtain ⟨x0, x1, rfl, h0, h1⟩ := fitsA2 h
  obtain ⟨n, g, j1, j2, k, p, hn, hk, i0⟩ := arg_run h0
  obtain ⟨m1, f1, hm1, i1⟩ := arg_ints h1
  have := r9 n g hn j1 j2 k p m1 f1 hm1 []
  rw [r9_true hn] at this
  exact this.imp (.cons i0 (.cons i1 .nil))

set_option maxRecDepth 100000 in
theorem toleranceFails_lifted (os : Os) (started : os.Started) (H : Type) (enc : TypeId × Value → H) :
    ReturnsInHanded {} Try.checked os 9 .any (Rows.toleranceFailsSpec.pre6 enc Try.prog Try.f9 Rows.toleranceFailsRow.domain false) (Rows.toleranceFailsSpec.post enc Try.prog Try.f9 false true false false) :=
  lifted (C := Try.checked) 5 own started (by kernel_rfl) Try.func9
    (ChangeSpec.witness6 (enc := enc) (C := Try.checked) false ⟨#[], #[.agg #[.slice none 0 0, .int .i64 0, .int .i64 0, .slice none 0 0], .slice none 0 0], []⟩ 8 (by kernel_rfl) (by kernel_rfl) (by kernel_rfl) (by kernel_rfl))
    rfl (fun ds hd => by
      match ds, hd with
      | [_, _], _ => rfl) (rt := 4) (by kernel_rfl) (by kernel_rfl) laidOut (by kernel_rfl) law9

theorem toleranceFails_holds : Rows.ToleranceFailsSaid :=
  OpenClaim.holds_of_wide 9 Try.f9 rfl rfl rfl rfl rfl rfl rfl ⟨rfl, rfl, rfl, rfl, rfl⟩ rfl rfl rfl rfl rfl (by kernel_rfl) Try.func9 (by kernel_rfl)
    (of_decide_eq_true (by kernel_rfl)) (by unfold Func.isWrapper; first | (rw [if_pos (by decide +kernel)]; kernel_rfl) | (rw [if_neg (by decide +kernel)]; exact ⟨rfl, rfl⟩))
    (fun os started H enc _ => toleranceFails_lifted os started H enc)
#print axioms toleranceFails_holds
end Go.Proofs.Ytjdakdjgkpfjkaa
