/- Contracts of the functions and plain laws, part 3. Conditions: none. -/
import Derived.Test.YtgmppoappaolkaaM2

open Go

namespace Go.Proofs.Ytgmppoappaolkaa

set_option linter.unusedSimpArgs false

set_option linter.unusedVariables false

set_option maxHeartbeats 0

set_option maxRecDepth 100000

/-- What the search hands back, for the number of stands to choose. -/
noncomputable def sV (n K : Nat) (S : Nat → Int) (q : Int) : Int := match q.toNat with
  | 0 => 0
  | 1 => r52_1.v0 n K S 0 0
  | 2 => r52_2.v0 n K S 0 0
  | 3 => r52_3.v0 n K S 0 0
  | 4 => r52_4.v0 n K S 0 0
  | 5 => r52_5.v0 n K S 0 0
  | _ => r52_6.v0 n K S 0 0

noncomputable def sB (n K : Nat) (S : Nat → Int) (q : Int) : Bool := match q.toNat with
  | 0 => r52_0.v1 K S 0
  | 1 => r52_1.v1 n K S 0 0
  | 2 => r52_2.v1 n K S 0 0
  | 3 => r52_3.v1 n K S 0 0
  | 4 => r52_4.v1 n K S 0 0
  | 5 => r52_5.v1 n K S 0 0
  | _ => r52_6.v1 n K S 0 0

theorem c52 (n : Nat) (g : Nat → SD) (rv12 : Nat) (rl12 : List Int) (hn : (n : Int) ≤ 64) (K : Nat) (S : Nat → Int) (hK : K ≤ 9223372036854775807) (q : Int) (h0 : 0 ≤ q) (h1 : q ≤ 6) : Ret Try.prog 52 ([AV.int .i64 0, AV.int .i64 q, AV.int .u64 0, AV.ptr 2 1 1 0 0, AV.ptr 0 1 1 0 0, AV.ptr 3 1 1 0 0]) ([AObj.var (sts n g), AObj.var (uvs K S), AObj.var (AV.fn 49 [AV.ptr 1 1 1 0 0]), AObj.var (AV.fn 52 [AV.ptr 2 1 1 0 0, AV.ptr 0 1 1 0 0, AV.ptr 3 1 1 0 0]), AObj.row 1 rv12 (Col.ints IntKind.i64 rl12)]) (AV.tup [(AV.int IntKind.u64 (sV n K S q)), (AV.bool (sB n K S q))]) ([AObj.var (sts n g), AObj.var (uvs K S), AObj.var (AV.fn 49 [AV.ptr 1 1 1 0 0]), AObj.var (AV.fn 52 [AV.ptr 2 1 1 0 0, AV.ptr 0 1 1 0 0, AV.ptr 3 1 1 0 0]), AObj.row 1 rv12 (Col.ints IntKind.i64 rl12)]) := by
  have : q = 0 ∨ q = 1 ∨ q = 2 ∨ q = 3 ∨ q = 4 ∨ q = 5 ∨ q = 6 := by omega
  rcases this with rfl | rfl | rfl | rfl | rfl | rfl | rfl
  · exact r52_0 n g rv12 rl12 K S hK 0 0
  · exact r52_1 n g rv12 rl12 hn K S hK 0 0 (by decide) (by decide)
  · exact r52_2 n g rv12 rl12 hn K S hK 0 0 (by decide) (by decide)
  · exact r52_3 n g rv12 rl12 hn K S hK 0 0 (by decide) (by decide)
  · exact r52_4 n g rv12 rl12 hn K S hK 0 0 (by decide) (by decide)
  · exact r52_5 n g rv12 rl12 hn K S hK 0 0 (by decide) (by decide)
  · exact r52_6 n g rv12 rl12 hn K S hK 0 0 (by decide) (by decide)

theorem c48 (n : Nat) (g : Nat → SD) (hn : n ≤ 9223372036854775807) (hg : ∀ (i : Nat), i < n → (g i).nl = (g i).nr) (nb : Nat) (gb : Nat → BD) (hnb : nb ≤ 256) (hbb : ∀ (i : Nat), i < nb → (r36.v (gb i).a (gb i).b (gb i).c (gb i).d (gb i).e (gb i).f == 0) = true) (m : Int) (hd : r37.v m = true) (h : AHeap) : Ret Try.prog 48 ([sts n g, blks nb gb, AV.int IntKind.i64 m]) h (uvs nb (fun i => (r48.v n g nb gb m).getD i 0)) h := by
  have := r48 n g hn hg nb gb hnb hbb m hd h
  unfold avInts at this
  rw [r48_len hnb] at this
  refine this.out (Imp.sl fun i hi => ?_)
  rw [offGet_eq, Nat.zero_add]
  exact ImpL.refl _

inductive L28a.O where
  | e0 (a0 : Nat) (a1 : List ByteArray)

noncomputable def L28a.T (n : Nat) (g : Nat → SD) (nb : Nat) (gb : Nat → BD) (m : Int) (av9 : Nat) (al9 : List ByteArray) (a24 : Int) : List AV := mkT 41 [(1, AV.sl 7 nb fun (i : Nat) => AV.agg [AV.str (gb i).nm, AV.int IntKind.i64 (gb i).a, AV.int IntKind.i64 (gb i).b, AV.int IntKind.i64 (gb i).c, AV.int IntKind.i64 (gb i).d, AV.int IntKind.i64 (gb i).e, AV.int IntKind.i64 (gb i).f]), (9, AV.ms 0 av9 1 0 al9.length), (22, AV.sl 1 nb fun (i : Nat) => AV.int IntKind.u64 ((r48.v n g nb gb m).getD i 0)), (23, AV.int IntKind.i64 (↑nb : Int)), (24, AV.int IntKind.i64 a24)]

noncomputable def L28a.H (n : Nat) (g : Nat → SD) (nb : Nat) (gb : Nat → BD) (m : Int) (av9 : Nat) (al9 : List ByteArray) (a24 : Int) : AHeap := [AObj.row 1 av9 (Col.strs al9)]

def L28a.inv (n : Nat) (g : Nat → SD) (nb : Nat) (gb : Nat → BD) (m : Int) (av9 : Nat) (al9 : List ByteArray) (a24 : Int) : Prop := 0 ≤ a24 ∧ (a24 ≤ (↑nb : Int) ∨ a24 ≤ 0) ∧ (↑al9.length : Int) ≤ a24 - 0

noncomputable def L28a.mu (n : Nat) (g : Nat → SD) (nb : Nat) (gb : Nat → BD) (m : Int) (av9 : Nat) (al9 : List ByteArray) (a24 : Int) : Nat := ((↑nb : Int) - a24).toNat

noncomputable def L28a.E : L28a.O → Exit
  | .e0 a0 a1 => Exit.exit 0

noncomputable def L28a.X (n : Nat) (g : Nat → SD) (nb : Nat) (gb : Nat → BD) (m : Int) : L28a.O → List AV
  | .e0 a0 a1 => mkT 41 [(9, (AV.ms 0 a0 1 0 (List.length a1)))]

noncomputable def L28a.XH (n : Nat) (g : Nat → SD) (nb : Nat) (gb : Nat → BD) (m : Int) : L28a.O → AHeap
  | .e0 a0 a1 => ((AObj.row 1 a0 (Col.strs a1)) :: ([]))

noncomputable def L28a.N (n : Nat) (g : Nat → SD) (nb : Nat) (gb : Nat → BD) (m : Int) : Nat → Nat → (List ByteArray) → Int → L28a.O
  | 0, av9, al9, _ => .e0 av9 al9
  | k_ + 1, av9, al9, a24 => (bif decide (a24 < (↑nb : Int)) then (bif (r48.v n g nb gb m).getD a24.toNat 0 == 0 then (L28a.N n g nb gb m k_ (av9 + 1) (al9 ++ [(gb a24.toNat).nm]) (IntKind.i64.wrap (a24 + 1))) else (L28a.N n g nb gb m k_ (av9) (al9) (IntKind.i64.wrap (a24 + 1)))) else (.e0 (av9) (al9)))

noncomputable def L28a.run (n : Nat) (g : Nat → SD) (nb : Nat) (gb : Nat → BD) (m : Int) (av9 : Nat) (al9 : List ByteArray) (a24 : Int) : L28a.O := L28a.N n g nb gb m ((((↑nb : Int) - a24).toNat) + 1) av9 al9 a24

theorem L28a.nx (n : Nat) (g : Nat → SD) (nb : Nat) (gb : Nat → BD) (m : Int) {k_ : Nat} {z_ : Nat × (List ByteArray) × Int} {h_ : AHeap} (s_ : Nat × (List ByteArray) × Int) (h1 : L28a.inv n g nb gb m s_.1 s_.2.1 s_.2.2) (h2 : L28a.mu n g nb gb m s_.1 s_.2.1 s_.2.2 < L28a.mu n g nb gb m z_.1 z_.2.1 z_.2.2) (h3 : L28a.N n g nb gb m k_ s_.1 s_.2.1 s_.2.2 = L28a.N n g nb gb m (k_ + 1) z_.1 z_.2.1 z_.2.2) (h4 : PopOk (L28a.H n g nb gb m z_.1 z_.2.1 z_.2.2) h_ (L28a.T n g nb gb m s_.1 s_.2.1 s_.2.2) (L28a.H n g nb gb m s_.1 s_.2.1 s_.2.2)) : LNextP (fun (z_ : Nat × (List ByteArray) × Int) => L28a.T n g nb gb m z_.1 z_.2.1 z_.2.2) (fun (z_ : Nat × (List ByteArray) × Int) => L28a.H n g nb gb m z_.1 z_.2.1 z_.2.2) (fun (z_ : Nat × (List ByteArray) × Int) => L28a.inv n g nb gb m z_.1 z_.2.1 z_.2.2) (fun (z_ : Nat × (List ByteArray) × Int) => L28a.mu n g nb gb m z_.1 z_.2.1 z_.2.2) (fun (k_ : Nat) (z_ : Nat × (List ByteArray) × Int) => L28a.N n g nb gb m k_ z_.1 z_.2.1 z_.2.2) k_ z_ (L28a.T n g nb gb m s_.1 s_.2.1 s_.2.2) h_ := LNextP.mk (Tm := (fun (z_ : Nat × (List ByteArray) × Int) => L28a.T n g nb gb m z_.1 z_.2.1 z_.2.2)) (Hp := (fun (z_ : Nat × (List ByteArray) × Int) => L28a.H n g nb gb m z_.1 z_.2.1 z_.2.2)) (inv := (fun (z_ : Nat × (List ByteArray) × Int) => L28a.inv n g nb gb m z_.1 z_.2.1 z_.2.2)) (mu := (fun (z_ : Nat × (List ByteArray) × Int) => L28a.mu n g nb gb m z_.1 z_.2.1 z_.2.2)) (l := (fun (k_ : Nat) (z_ : Nat × (List ByteArray) × Int) => L28a.N n g nb gb m k_ z_.1 z_.2.1 z_.2.2)) s_ h1 h2 h3 h4

theorem L28a.en (n : Nat) (g : Nat → SD) (nb : Nat) (gb : Nat → BD) (m : Int) {k_ : Nat} {z_ : Nat × (List ByteArray) × Int} {h_ : AHeap} (o_ : L28a.O) (h3 : L28a.N n g nb gb m (k_ + 1) z_.1 z_.2.1 z_.2.2 = o_) (h4 : PopOk (L28a.H n g nb gb m z_.1 z_.2.1 z_.2.2) h_ (L28a.X n g nb gb m o_) (L28a.XH n g nb gb m o_)) : LEndP (fun (z_ : Nat × (List ByteArray) × Int) => L28a.H n g nb gb m z_.1 z_.2.1 z_.2.2) (fun (k_ : Nat) (z_ : Nat × (List ByteArray) × Int) => L28a.N n g nb gb m k_ z_.1 z_.2.1 z_.2.2) L28a.E (L28a.X n g nb gb m) (L28a.XH n g nb gb m) k_ z_ (L28a.E o_) (L28a.X n g nb gb m o_) h_ := LEndP.mk (Hp := (fun (z_ : Nat × (List ByteArray) × Int) => L28a.H n g nb gb m z_.1 z_.2.1 z_.2.2)) (l := (fun (k_ : Nat) (z_ : Nat × (List ByteArray) × Int) => L28a.N n g nb gb m k_ z_.1 z_.2.1 z_.2.2)) (oE := L28a.E) (oT := L28a.X n g nb gb m) (oH := L28a.XH n g nb gb m) o_ h3 h4

theorem L28a.spec (n : Nat) (g : Nat → SD) (hn : n ≤ 9223372036854775807) (nb : Nat) (gb : Nat → BD) (hnb : nb ≤ 9223372036854775807) (m : Int) (k0_1 : (r47.v n g nb gb m == 0) = true) (p0_1 : r47.v n g nb gb m = 0) (k_ : Nat) (z_ : Nat × (List ByteArray) × Int) (hi_ : L28a.inv n g nb gb m z_.1 z_.2.1 z_.2.2) (hm_ : L28a.mu n g nb gb m z_.1 z_.2.1 z_.2.2 < k_) : LoopTo Try.prog (loopN Try.f28 0) (L28a.T n g nb gb m z_.1 z_.2.1 z_.2.2) (L28a.H n g nb gb m z_.1 z_.2.1 z_.2.2) (L28a.E (L28a.N n g nb gb m k_ z_.1 z_.2.1 z_.2.2)) (L28a.X n g nb gb m (L28a.N n g nb gb m k_ z_.1 z_.2.1 z_.2.2)) (L28a.XH n g nb gb m (L28a.N n g nb gb m k_ z_.1 z_.2.1 z_.2.2)) := by
  refine LoopTo.fuelP mix (fun (z_ : Nat × (List ByteArray) × Int) => L28a.T n g nb gb m z_.1 z_.2.1 z_.2.2) (fun (z_ : Nat × (List ByteArray) × Int) => L28a.H n g nb gb m z_.1 z_.2.1 z_.2.2) (fun (z_ : Nat × (List ByteArray) × Int) => L28a.inv n g nb gb m z_.1 z_.2.1 z_.2.2) (fun (z_ : Nat × (List ByteArray) × Int) => L28a.mu n g nb gb m z_.1 z_.2.1 z_.2.2) (fun (k_ : Nat) (z_ : Nat × (List ByteArray) × Int) => L28a.N n g nb gb m k_ z_.1 z_.2.1 z_.2.2) L28a.E (L28a.X n g nb gb m) (L28a.XH n g nb gb m) (others 41 [1, 9, 22, 23, 24]) (others 41 [6, 7]) (others 41 [9]) ?_ k_ z_ hi_ hm_
  clear hm_ hi_ z_ k_
  intro k_ z_ hinv hmu
  obtain ⟨av9, al9, a24⟩ := z_
  have hinv : 0 ≤ a24 ∧ (a24 ≤ (↑nb : Int) ∨ a24 ≤ 0) ∧ (↑al9.length : Int) ≤ a24 - 0 := hinv
  have hmu : (((↑nb : Int) - a24).toNat) < k_ + 1 := hmu
  cases h1 : decide (a24 < (↑nb : Int)) with
  | true =>
    have h1p := of_decide_eq_true h1
    try have := bd_rd (by first | assumption | omega) (by first | assumption | omega)
    have o0 : (0 : Int) ≤ a24 := by first | assumption | omega | (simp_all; done)
    have o1 : a24 < (↑nb : Int) := by first | assumption | omega | (simp_all; done)
    cases h2 : (r48.v n g nb gb m).getD a24.toNat 0 == 0 with
    | true =>
      have h2p := eq_of_beq h2
      try have := bd_rd (by first | assumption | omega) (by first | assumption | omega)
      have o2 : (al9.length + (1 : Nat)) * (16 : Nat) ≤ (140737488355328 : Nat) := by first | assumption | omega | (simp only [List.length_append, List.length_cons, List.length_nil, List.length_map]; omega) | (simp_all; done)
      have o3 : al9.length = (Col.strs al9).len := by first | assumption | omega | (simp only [List.length_append, List.length_cons, List.length_nil, List.length_map]; omega) | rfl | (exact Nat.le_refl _) | (simp [Col.len]; done) | (simp only [Col.len, zero_bool, zero_int, List.length_replicate, List.length_set] at *; omega) | (simp_all; done)
      try have := IntWalk.i64_in (a24 + 1) (by omega)
      have o4 : (0 : Int) ≤ IntKind.i64.wrap (a24 + (1 : Int)) := by first | assumption | omega | (simp_all; done)
      have o5 : IntKind.i64.wrap (a24 + (1 : Int)) ≤ (↑nb : Int) ∨ IntKind.i64.wrap (a24 + (1 : Int)) ≤ (0 : Int) := by first | assumption | omega | (simp_all; done)
      have o6 : (↑(al9 ++ [(gb a24.toNat).nm]).length : Int) ≤ IntKind.i64.wrap (a24 + (1 : Int)) - (0 : Int) := by first | assumption | omega | (simp only [List.length_append, List.length_cons, List.length_nil, List.length_map]; omega) | (simp_all; done)
      have o7 : ((↑nb : Int) - IntKind.i64.wrap (a24 + (1 : Int))).toNat < ((↑nb : Int) - a24).toNat := by first | assumption | omega | (simp_all; done)
      exact ⟨[.b true, .b true, .app .one false], kmp (by kernel_rfl) (And.intro h1 (And.intro (And.intro o0 o1) (And.intro h2 (And.intro (And.intro o0 o1) (And.intro (And.intro (show (1 : Nat) = (1 : Nat) by first | decide | exact Int.NonNeg.mk _) (And.intro (show AppMode.one.needs 1 fun (a : Nat) => (Col.ofList [AV.str (gb a24.toNat).nm]).get a by first | exact ⟨rfl, rfl⟩ | simp [AppMode.needs]) (And.intro o2 (And.intro (rfl : av9 = av9) (And.intro (show (0 : Nat) = (0 : Nat) by first | decide | exact Int.NonNeg.mk _) o3))))) (L28a.nx n g nb gb m (k_ := k_) (z_ := (av9, al9, a24)) ((av9 + 1, al9 ++ [(gb a24.toNat).nm], IntKind.i64.wrap (a24 + 1))) (And.intro o4 (And.intro o5 o6)) o7 (by first | (simp only [L28a.N, h1, h2, cond_true, cond_false]; done) | (try unfold L28a.N; try simp only [h1, cond_true, cond_false]; try simp only [h2, cond_true, cond_false]; try rfl; done)) PopOk.same))))))⟩
    | false =>
      have h2p := ne_of_beq_false h2
      try have := bd_rd (by first | assumption | omega) (by first | assumption | omega)
      try have := IntWalk.i64_in (a24 + 1) (by omega)
      have o4 : (0 : Int) ≤ IntKind.i64.wrap (a24 + (1 : Int)) := by first | assumption | omega | (simp_all; done)
      have o5 : IntKind.i64.wrap (a24 + (1 : Int)) ≤ (↑nb : Int) ∨ IntKind.i64.wrap (a24 + (1 : Int)) ≤ (0 : Int) := by first | assumption | omega | (simp_all; done)
      have o8 : (↑al9.length : Int) ≤ IntKind.i64.wrap (a24 + (1 : Int)) - (0 : Int) := by first | assumption | omega | (simp only [List.length_append, List.length_cons, List.length_nil, List.length_map]; omega) | (simp_all; done)
      have o7 : ((↑nb : Int) - IntKind.i64.wrap (a24 + (1 : Int))).toNat < ((↑nb : Int) - a24).toNat := by first | assumption | omega | (simp_all; done)
      exact ⟨[.b true, .b false], kmp (by kernel_rfl) (And.intro h1 (And.intro (And.intro o0 o1) (And.intro h2 (L28a.nx n g nb gb m (k_ := k_) (z_ := (av9, al9, a24)) ((av9, al9, IntKind.i64.wrap (a24 + 1))) (And.intro o4 (And.intro o5 o8)) o7 (by first | (simp only [L28a.N, h1, h2, cond_true, cond_false]; done) | (try unfold L28a.N; try simp only [h1, cond_true, cond_false]; try simp only [h2, cond_true, cond_false]; try rfl; done)) PopOk.same))))⟩
  | false =>
    have h1p := of_decide_eq_false h1
    exact ⟨[.b false], kmp (by kernel_rfl) (And.intro h1 (L28a.en n g nb gb m (k_ := k_) (z_ := (av9, al9, a24)) (.e0 (av9) (al9) : L28a.O) (by first | (simp only [L28a.N, h1, cond_true, cond_false]; done) | (try unfold L28a.N; try simp only [h1, cond_true, cond_false]; try rfl; done)) PopOk.same))⟩

theorem L28a.e0 (n : Nat) (g : Nat → SD) (hn : n ≤ 9223372036854775807) (nb : Nat) (gb : Nat → BD) (hnb : nb ≤ 9223372036854775807) (m : Int) (k0_1 : (r47.v n g nb gb m == 0) = true) (p0_1 : r47.v n g nb gb m = 0) (av9 : Nat) (al9 : List ByteArray) (a24 : Int) (hinv : L28a.inv n g nb gb m av9 al9 a24) (a0 : Nat) (a1 : List ByteArray) (hN : L28a.run n g nb gb m av9 al9 a24 = (.e0 a0 a1 : L28a.O)) : LoopTo Try.prog (loopN Try.f28 0) (L28a.T n g nb gb m av9 al9 a24) (L28a.H n g nb gb m av9 al9 a24) (Exit.exit 0) (L28a.X n g nb gb m (.e0 a0 a1 : L28a.O)) (L28a.XH n g nb gb m (.e0 a0 a1 : L28a.O)) := by
  have h_ := L28a.spec n g hn nb gb hnb m k0_1 p0_1 ((((↑nb : Int) - a24).toNat) + 1) (av9, al9, a24) hinv (Nat.lt_succ_self _)
  unfold L28a.run at hN
  simp only [hN] at h_
  exact h_

theorem L28a.len0_1 (n : Nat) (g : Nat → SD) (nb : Nat) (gb : Nat → BD) (m : Int) : ∀ (m_ : Nat) (av9 : Nat) (al9 : List ByteArray) (a24 : Int) (a0_ : Nat) (a1_ : List ByteArray), L28a.N n g nb gb m m_ av9 al9 a24 = (.e0 a0_ a1_ : L28a.O) → (a1_).length ≤ (al9).length + m_ := by
  intro m_
  induction m_ with
  | zero =>
    intro av9 al9 a24 a0_ a1_ h_
    simp only [L28a.N] at h_
    first | (cases h_; done) | (cases h_; first | exact Nat.zero_le _ | omega)
  | succ m_ ih_ =>
    intro av9 al9 a24 a0_ a1_ h_
    cases h1 : decide (a24 < (↑nb : Int)) with
    | true =>
      have h1p := of_decide_eq_true h1
      cases h2 : (r48.v n g nb gb m).getD a24.toNat 0 == 0 with
      | true =>
        have h2p := eq_of_beq h2
        (simp only [L28a.N, h1, h2, cond_true, cond_false] at h_; first | (have := ih_ _ _ _ _ _ h_; (try simp only [List.length_append, List.length_cons, List.length_nil, List.length_set] at this); omega) | (cases h_; done) | (cases h_; omega))
      | false =>
        have h2p := ne_of_beq_false h2
        (simp only [L28a.N, h1, h2, cond_true, cond_false] at h_; first | (have := ih_ _ _ _ _ _ h_; (try simp only [List.length_append, List.length_cons, List.length_nil, List.length_set] at this); omega) | (cases h_; done) | (cases h_; omega))
    | false =>
      have h1p := of_decide_eq_false h1
      (simp only [L28a.N, h1, cond_true, cond_false] at h_; first | (have := ih_ _ _ _ _ _ h_; (try simp only [List.length_append, List.length_cons, List.length_nil, List.length_set] at this); omega) | (cases h_; done) | (cases h_; omega))

theorem L28a.lenR0_1 (n : Nat) (g : Nat → SD) (nb : Nat) (gb : Nat → BD) (m : Int) {av9 : Nat} {al9 : List ByteArray} {a24 : Int} {a0_ : Nat} {a1_ : List ByteArray} (h_ : L28a.run n g nb gb m av9 al9 a24 = (.e0 a0_ a1_ : L28a.O)) : (a1_).length ≤ (al9).length + ((((↑nb : Int) - a24).toNat) + 1) := L28a.len0_1 n g nb gb m _ av9 al9 a24 a0_ a1_ h_

noncomputable def r28.v0 (n : Nat) (g : Nat → SD) (nb : Nat) (gb : Nat → BD) (m : Int) : List ByteArray := (bif r47.v n g nb gb m == 0 then (match L28a.run n g nb gb m 0 [] 0 with | .e0 h2d0 h2d1 => h2d1 ) else ([] : List ByteArray))

noncomputable def r28.v1 (n : Nat) (g : Nat → SD) (nb : Nat) (gb : Nat → BD) (m : Int) : Int := (bif r47.v n g nb gb m == 0 then (match L28a.run n g nb gb m 0 [] 0 with | .e0 h2d0 h2d1 => 0 ) else r47.v n g nb gb m)

theorem r28 (n : Nat) (g : Nat → SD) (hn : n ≤ 9223372036854775807) (nb : Nat) (gb : Nat → BD) (hnb : nb ≤ 9223372036854775807) (m : Int) (h : AHeap) : Ret Try.prog 28 ([sts n g, blks nb gb, AV.int IntKind.i64 m]) h (AV.tup [(avStrs (r28.v0 n g nb gb m)), (AV.int IntKind.i64 (r28.v1 n g nb gb m))]) h := by
  try have := bd_rd (by first | assumption | omega) (by first | assumption | omega)
  have o0 : n ≤ (9223372036854775807 : Nat) := by first | assumption | omega | (simp_all; done)
  have o1 : nb ≤ (9223372036854775807 : Nat) := by first | assumption | omega | (simp_all; done)
  cases h1 : r47.v n g nb gb m == 0 with
  | true =>
    have h1p := eq_of_beq h1
    try have := bd_rd (by first | assumption | omega) (by first | assumption | omega)
    have o2 : ∀ (i : Nat), i < n → (g i).nl = (g i).nr := by first | assumption | omega | (apply rd_g <;> first | assumption | omega) | (simp_all; done)
    have o3 : nb ≤ (256 : Nat) := by first | assumption | omega | (simp_all; done)
    have o4 : ∀ (i : Nat), i < nb → (r36.v (gb i).a (gb i).b (gb i).c (gb i).d (gb i).e (gb i).f == (0 : Int)) = true := by first | assumption | omega | (apply rd_b <;> first | assumption | omega) | (simp_all; done)
    have o5 : r37.v m = true := by first | assumption | omega | (apply rd_d <;> first | assumption | omega) | (simp_all; done)
    have o6 : (r47.v n g nb gb m == (0 : Int)) = true := by first | assumption | omega | (simp_all; done)
    have o7 : r47.v n g nb gb m = (0 : Int) := by first | assumption | omega | (simp_all; done)
    have o8 : (0 : Int) ≤ (↑nb : Int) ∨ (0 : Int) ≤ (0 : Int) := by first | assumption | omega | (simp_all; done)
    cases h2 : L28a.run n g nb gb m 0 [] 0 with
    | e0 h2d0 h2d1 =>
      try have := bd_rd (by first | assumption | omega) (by first | assumption | omega)
      try have := L28a.lenR0_1 _ _ _ _ _ (by assumption); (try simp only [List.length_nil] at this)
      have o9 : (0 : Nat) + h2d1.length ≤ (Col.strs h2d1).len := by first | assumption | omega | (simp only [List.length_append, List.length_cons, List.length_nil, List.length_map]; omega) | rfl | (exact Nat.le_refl _) | (simp [Col.len]; done) | (simp only [Col.len, zero_bool, zero_int, List.length_replicate, List.length_set] at *; omega) | (simp_all; done)
      exact Ret.of_run1 mix [(avStrs (r28.v0 n g nb gb m)), (AV.int IntKind.i64 (r28.v1 n g nb gb m))] Try.func28 rfl [.ret (AV.int IntKind.i64 (r47.v n g nb gb m)) ([]), .b false, .ret (AV.sl 1 nb fun (i : Nat) => AV.int IntKind.u64 ((r48.v n g nb gb m).getD i 0)) ([]), .virt [] [(none, 9, 1, Col.strs [])], .loop (others 41 [1, 9, 22, 23, 24]) (Exit.exit 0) (L28a.X n g nb gb m (L28a.O.e0 h2d0 h2d1)) (L28a.XH n g nb gb m (L28a.O.e0 h2d0 h2d1))] (by simp) (by simp) (kmp (by kernel_rfl) (And.intro (r47 (n) (g) o0 (nb) (gb) o1 (m) ([])) (And.intro (show (bnot (r47.v n g nb gb m == 0)) = false by rw [h1]; try rfl) (And.intro (c48 (n) (g) o0 o2 (nb) (gb) o3 o4 (m) o5 ([])) (And.intro (And.intro (rfl : AV.snil = AV.snil) (And.intro (rfl : (0 : Nat) = 0) trivial)) (And.intro (L28a.e0 (n) (g) o0 (nb) (gb) o1 (m) o6 o7 (0) ([]) (0) (And.intro (show (0 : Int) ≤ (0 : Int) by first | decide | exact Int.NonNeg.mk _) (And.intro o8 (show (0 : Int) ≤ (0 : Int) by first | decide | exact Int.NonNeg.mk _))) h2d0 h2d1 h2) (And.intro (And.intro (rfl : h2d0 = h2d0) (And.intro (show (1 : Nat) = (1 : Nat) by first | decide | exact Int.NonNeg.mk _) (And.intro o9 (show ((avStrs h2d1)) = ((avStrs (r28.v0 n g nb gb m))) by first | (simp only [r28.v0, r28.v1, h1, h2, cond_true, cond_false]; done) | (try unfold r28.v0; try unfold r28.v1; try simp only [h1, cond_true, cond_false]; try simp only [h2, cond_true, cond_false]; try rfl; done) | rfl)))) (And.intro (show (AV.int IntKind.i64 0) = ((AV.int IntKind.i64 (r28.v1 n g nb gb m))) by first | (simp only [r28.v0, r28.v1, h1, h2, cond_true, cond_false]; done) | (try unfold r28.v0; try unfold r28.v1; try simp only [h1, cond_true, cond_false]; try simp only [h2, cond_true, cond_false]; try rfl; done) | rfl) trivial)))))))) h
  | false =>
    have h1p := ne_of_beq_false h1
    exact Ret.val (show (AV.tup [(avStrs ([] : List ByteArray)), AV.int IntKind.i64 (r47.v n g nb gb m)]) = (AV.tup [(avStrs (r28.v0 n g nb gb m)), (AV.int IntKind.i64 (r28.v1 n g nb gb m))]) by first | (simp only [r28.v0, r28.v1, h1, cond_true, cond_false]; done) | (try unfold r28.v0; try unfold r28.v1; try simp only [h1, cond_true, cond_false]; try rfl; done) | rfl) (Ret.of_run1 mix [(avStrs ([] : List ByteArray)), AV.int IntKind.i64 (r47.v n g nb gb m)] Try.func28 rfl [.ret (AV.int IntKind.i64 (r47.v n g nb gb m)) ([]), .b true] (by simp) (by simp) (kmp (by kernel_rfl) (And.intro (r47 (n) (g) o0 (nb) (gb) o1 (m) ([])) (And.intro (show (bnot (r47.v n g nb gb m == 0)) = true by rw [h1]; try rfl) (And.intro (rfl : ((avStrs ([] : List ByteArray))) = ((avStrs ([] : List ByteArray)))) (And.intro (rfl : (AV.int IntKind.i64 (r47.v n g nb gb m)) = (AV.int IntKind.i64 (r47.v n g nb gb m))) trivial))))) h)

inductive L29ab.O where
  | e0 (a0 : Nat) (a1 : List Int)

noncomputable def L29ab.T (n : Nat) (g : Nat → SD) (nb : Nat) (gb : Nat → BD) (m : Int) (al12 : List Int) (a13 : Int) (bv12 : Nat) (bl12 : List Int) (b46 : Int) : List AV := mkT 60 [(12, AV.ms 4 bv12 1 0 bl12.length), (14, AV.int IntKind.u64 (sV n nb (fun (i : Nat) => (r48.v n g nb gb m).getD i 0) a13)), (45, AV.int IntKind.i64 (↑n : Int)), (46, AV.int IntKind.i64 b46)]

noncomputable def L29ab.H (n : Nat) (g : Nat → SD) (nb : Nat) (gb : Nat → BD) (m : Int) (al12 : List Int) (a13 : Int) (bv12 : Nat) (bl12 : List Int) (b46 : Int) : AHeap := [AObj.dead, AObj.dead, AObj.dead, AObj.dead, AObj.row 1 bv12 (Col.ints IntKind.i64 bl12)]

def L29ab.inv (n : Nat) (g : Nat → SD) (nb : Nat) (gb : Nat → BD) (m : Int) (al12 : List Int) (a13 : Int) (bv12 : Nat) (bl12 : List Int) (b46 : Int) : Prop := 0 ≤ b46 ∧ (b46 ≤ (↑n : Int) ∨ b46 ≤ 0) ∧ (↑bl12.length : Int) + (↑((↑n : Int) - b46).toNat : Int) ≤ 1000000000

noncomputable def L29ab.mu (n : Nat) (g : Nat → SD) (nb : Nat) (gb : Nat → BD) (m : Int) (al12 : List Int) (a13 : Int) (bv12 : Nat) (bl12 : List Int) (b46 : Int) : Nat := ((↑n : Int) - b46).toNat

noncomputable def L29ab.E : L29ab.O → Exit
  | .e0 a0 a1 => Exit.exit 2

noncomputable def L29ab.X (n : Nat) (g : Nat → SD) (nb : Nat) (gb : Nat → BD) (m : Int) (al12 : List Int) (a13 : Int) : L29ab.O → List AV
  | .e0 a0 a1 => mkT 60 [(12, (AV.ms 4 a0 1 0 (List.length a1)))]

noncomputable def L29ab.XH (n : Nat) (g : Nat → SD) (nb : Nat) (gb : Nat → BD) (m : Int) (al12 : List Int) (a13 : Int) : L29ab.O → AHeap
  | .e0 a0 a1 => ((AObj.dead) :: ((AObj.dead) :: ((AObj.dead) :: ((AObj.dead) :: ((AObj.row 1 a0 (Col.ints IntKind.i64 a1)) :: ([]))))))

noncomputable def L29ab.N (n : Nat) (g : Nat → SD) (nb : Nat) (gb : Nat → BD) (m : Int) (a13 : Int) : Nat → Nat → (List Int) → Int → L29ab.O
  | 0, bv12, bl12, _ => .e0 bv12 bl12
  | k_ + 1, bv12, bl12, b46 => (bif decide (b46 < (↑n : Int)) then (bif IntKind.u64.wrap (↑(BitVec.ofInt 64 ((sV n nb (fun (i : Nat) => (r48.v n g nb gb m).getD i 0) a13).fdiv (2 ^ min b46.toNat 64)) &&& BitVec.ofInt 64 1).toNat : Int) == 1 then (L29ab.N n g nb gb m a13 k_ (bv12 + 1) (bl12 ++ [b46]) (IntKind.i64.wrap (b46 + 1))) else (L29ab.N n g nb gb m a13 k_ (bv12) (bl12) (IntKind.i64.wrap (b46 + 1)))) else (.e0 (bv12) (bl12)))

noncomputable def L29ab.run (n : Nat) (g : Nat → SD) (nb : Nat) (gb : Nat → BD) (m : Int) (a13 : Int) (bv12 : Nat) (bl12 : List Int) (b46 : Int) : L29ab.O := L29ab.N n g nb gb m a13 ((((↑n : Int) - b46).toNat) + 1) bv12 bl12 b46

theorem L29ab.nx (n : Nat) (g : Nat → SD) (nb : Nat) (gb : Nat → BD) (m : Int) (al12 : List Int) (a13 : Int) {k_ : Nat} {z_ : Nat × (List Int) × Int} {h_ : AHeap} (s_ : Nat × (List Int) × Int) (h1 : L29ab.inv n g nb gb m al12 a13 s_.1 s_.2.1 s_.2.2) (h2 : L29ab.mu n g nb gb m al12 a13 s_.1 s_.2.1 s_.2.2 < L29ab.mu n g nb gb m al12 a13 z_.1 z_.2.1 z_.2.2) (h3 : L29ab.N n g nb gb m a13 k_ s_.1 s_.2.1 s_.2.2 = L29ab.N n g nb gb m a13 (k_ + 1) z_.1 z_.2.1 z_.2.2) (h4 : PopOk (L29ab.H n g nb gb m al12 a13 z_.1 z_.2.1 z_.2.2) h_ (L29ab.T n g nb gb m al12 a13 s_.1 s_.2.1 s_.2.2) (L29ab.H n g nb gb m al12 a13 s_.1 s_.2.1 s_.2.2)) : LNextP (fun (z_ : Nat × (List Int) × Int) => L29ab.T n g nb gb m al12 a13 z_.1 z_.2.1 z_.2.2) (fun (z_ : Nat × (List Int) × Int) => L29ab.H n g nb gb m al12 a13 z_.1 z_.2.1 z_.2.2) (fun (z_ : Nat × (List Int) × Int) => L29ab.inv n g nb gb m al12 a13 z_.1 z_.2.1 z_.2.2) (fun (z_ : Nat × (List Int) × Int) => L29ab.mu n g nb gb m al12 a13 z_.1 z_.2.1 z_.2.2) (fun (k_ : Nat) (z_ : Nat × (List Int) × Int) => L29ab.N n g nb gb m a13 k_ z_.1 z_.2.1 z_.2.2) k_ z_ (L29ab.T n g nb gb m al12 a13 s_.1 s_.2.1 s_.2.2) h_ := LNextP.mk (Tm := (fun (z_ : Nat × (List Int) × Int) => L29ab.T n g nb gb m al12 a13 z_.1 z_.2.1 z_.2.2)) (Hp := (fun (z_ : Nat × (List Int) × Int) => L29ab.H n g nb gb m al12 a13 z_.1 z_.2.1 z_.2.2)) (inv := (fun (z_ : Nat × (List Int) × Int) => L29ab.inv n g nb gb m al12 a13 z_.1 z_.2.1 z_.2.2)) (mu := (fun (z_ : Nat × (List Int) × Int) => L29ab.mu n g nb gb m al12 a13 z_.1 z_.2.1 z_.2.2)) (l := (fun (k_ : Nat) (z_ : Nat × (List Int) × Int) => L29ab.N n g nb gb m a13 k_ z_.1 z_.2.1 z_.2.2)) s_ h1 h2 h3 h4

theorem L29ab.en (n : Nat) (g : Nat → SD) (nb : Nat) (gb : Nat → BD) (m : Int) (al12 : List Int) (a13 : Int) {k_ : Nat} {z_ : Nat × (List Int) × Int} {h_ : AHeap} (o_ : L29ab.O) (h3 : L29ab.N n g nb gb m a13 (k_ + 1) z_.1 z_.2.1 z_.2.2 = o_) (h4 : PopOk (L29ab.H n g nb gb m al12 a13 z_.1 z_.2.1 z_.2.2) h_ (L29ab.X n g nb gb m al12 a13 o_) (L29ab.XH n g nb gb m al12 a13 o_)) : LEndP (fun (z_ : Nat × (List Int) × Int) => L29ab.H n g nb gb m al12 a13 z_.1 z_.2.1 z_.2.2) (fun (k_ : Nat) (z_ : Nat × (List Int) × Int) => L29ab.N n g nb gb m a13 k_ z_.1 z_.2.1 z_.2.2) L29ab.E (L29ab.X n g nb gb m al12 a13) (L29ab.XH n g nb gb m al12 a13) k_ z_ (L29ab.E o_) (L29ab.X n g nb gb m al12 a13 o_) h_ := LEndP.mk (Hp := (fun (z_ : Nat × (List Int) × Int) => L29ab.H n g nb gb m al12 a13 z_.1 z_.2.1 z_.2.2)) (l := (fun (k_ : Nat) (z_ : Nat × (List Int) × Int) => L29ab.N n g nb gb m a13 k_ z_.1 z_.2.1 z_.2.2)) (oE := L29ab.E) (oT := L29ab.X n g nb gb m al12 a13) (oH := L29ab.XH n g nb gb m al12 a13) o_ h3 h4

theorem L29ab.spec (n : Nat) (g : Nat → SD) (hn : (↑n : Int) ≤ 6) (nb : Nat) (gb : Nat → BD) (hnb : nb ≤ 9223372036854775807) (m : Int) (k0_1 : (r47.v n g nb gb m == 0) = true) (p0_1 : r47.v n g nb gb m = 0) (al12 : List Int) (a13 : Int) (i29a_0 : 0 ≤ a13) (i29a_1 : a13 ≤ (↑n : Int) + 1 ∨ a13 ≤ 0) (i29a_2 : (↑al12.length : Int) ≤ 1000000 * (a13 - 0)) (k1_1 : decide (a13 ≤ (↑n : Int)) = true) (p1_1 : a13 ≤ (↑n : Int)) (k1_2 : sB n nb (fun (i : Nat) => (r48.v n g nb gb m).getD i 0) a13 = true) (k_ : Nat) (z_ : Nat × (List Int) × Int) (hi_ : L29ab.inv n g nb gb m al12 a13 z_.1 z_.2.1 z_.2.2) (hm_ : L29ab.mu n g nb gb m al12 a13 z_.1 z_.2.1 z_.2.2 < k_) : LoopTo Try.prog (loopN Try.f29 1) (L29ab.T n g nb gb m al12 a13 z_.1 z_.2.1 z_.2.2) (L29ab.H n g nb gb m al12 a13 z_.1 z_.2.1 z_.2.2) (L29ab.E (L29ab.N n g nb gb m a13 k_ z_.1 z_.2.1 z_.2.2)) (L29ab.X n g nb gb m al12 a13 (L29ab.N n g nb gb m a13 k_ z_.1 z_.2.1 z_.2.2)) (L29ab.XH n g nb gb m al12 a13 (L29ab.N n g nb gb m a13 k_ z_.1 z_.2.1 z_.2.2)) := by
  refine LoopTo.fuelP mix (fun (z_ : Nat × (List Int) × Int) => L29ab.T n g nb gb m al12 a13 z_.1 z_.2.1 z_.2.2) (fun (z_ : Nat × (List Int) × Int) => L29ab.H n g nb gb m al12 a13 z_.1 z_.2.1 z_.2.2) (fun (z_ : Nat × (List Int) × Int) => L29ab.inv n g nb gb m al12 a13 z_.1 z_.2.1 z_.2.2) (fun (z_ : Nat × (List Int) × Int) => L29ab.mu n g nb gb m al12 a13 z_.1 z_.2.1 z_.2.2) (fun (k_ : Nat) (z_ : Nat × (List Int) × Int) => L29ab.N n g nb gb m a13 k_ z_.1 z_.2.1 z_.2.2) L29ab.E (L29ab.X n g nb gb m al12 a13) (L29ab.XH n g nb gb m al12 a13) (others 60 [12, 14, 45, 46]) (others 60 [6, 7]) (others 60 [12]) ?_ k_ z_ hi_ hm_
  clear hm_ hi_ z_ k_
  intro k_ z_ hinv hmu
  obtain ⟨bv12, bl12, b46⟩ := z_
  have hinv : 0 ≤ b46 ∧ (b46 ≤ (↑n : Int) ∨ b46 ≤ 0) ∧ (↑bl12.length : Int) + (↑((↑n : Int) - b46).toNat : Int) ≤ 1000000000 := hinv
  have hmu : (((↑n : Int) - b46).toNat) < k_ + 1 := hmu
  cases h1 : decide (b46 < (↑n : Int)) with
  | true =>
    have h1p := of_decide_eq_true h1
    try have := bd_rd (by first | assumption | omega) (by first | assumption | omega)
    have o0 : (0 : Int) ≤ b46 := by first | assumption | omega | (simp_all; done)
    cases h2 : IntKind.u64.wrap (↑(BitVec.ofInt 64 ((sV n nb (fun (i : Nat) => (r48.v n g nb gb m).getD i 0) a13).fdiv (2 ^ min b46.toNat 64)) &&& BitVec.ofInt 64 1).toNat : Int) == 1 with
    | true =>
      have h2p := eq_of_beq h2
      try have := bd_rd (by first | assumption | omega) (by first | assumption | omega)
      have o1 : (bl12.length + (1 : Nat)) * (8 : Nat) ≤ (140737488355328 : Nat) := by first | assumption | omega | (simp only [List.length_append, List.length_cons, List.length_nil, List.length_map]; omega) | (simp_all; done)
      have o2 : bl12.length = (Col.ints IntKind.i64 bl12).len := by first | assumption | omega | (simp only [List.length_append, List.length_cons, List.length_nil, List.length_map]; omega) | rfl | (exact Nat.le_refl _) | (simp [Col.len]; done) | (simp only [Col.len, zero_bool, zero_int, List.length_replicate, List.length_set] at *; omega) | (simp_all; done)
      try have := IntWalk.i64_in (b46 + 1) (by omega)
      have o3 : (0 : Int) ≤ IntKind.i64.wrap (b46 + (1 : Int)) := by first | assumption | omega | (simp_all; done)
      have o4 : IntKind.i64.wrap (b46 + (1 : Int)) ≤ (↑n : Int) ∨ IntKind.i64.wrap (b46 + (1 : Int)) ≤ (0 : Int) := by first | assumption | omega | (simp_all; done)
      have o5 : (↑(bl12 ++ [b46]).length : Int) + (↑((↑n : Int) - IntKind.i64.wrap (b46 + (1 : Int))).toNat : Int) ≤ (1000000000 : Int) := by first | assumption | omega | (simp only [List.length_append, List.length_cons, List.length_nil, List.length_map]; omega) | (simp_all; done)
      have o6 : ((↑n : Int) - IntKind.i64.wrap (b46 + (1 : Int))).toNat < ((↑n : Int) - b46).toNat := by first | assumption | omega | (simp_all; done)
      exact ⟨[.b true, .b true, .app .one false], kmp (by kernel_rfl) (And.intro h1 (And.intro o0 (And.intro h2 (And.intro (And.intro (show (1 : Nat) = (1 : Nat) by first | decide | exact Int.NonNeg.mk _) (And.intro (show AppMode.one.needs 1 fun (a : Nat) => (Col.ofList [AV.int IntKind.i64 b46]).get a by first | exact ⟨rfl, rfl⟩ | simp [AppMode.needs]) (And.intro o1 (And.intro (rfl : bv12 = bv12) (And.intro (show (0 : Nat) = (0 : Nat) by first | decide | exact Int.NonNeg.mk _) o2))))) (L29ab.nx n g nb gb m al12 a13 (k_ := k_) (z_ := (bv12, bl12, b46)) ((bv12 + 1, bl12 ++ [b46], IntKind.i64.wrap (b46 + 1))) (And.intro o3 (And.intro o4 o5)) o6 (by first | (simp only [L29ab.N, h1, h2, cond_true, cond_false]; done) | (try unfold L29ab.N; try simp only [h1, cond_true, cond_false]; try simp only [h2, cond_true, cond_false]; try rfl; done)) PopOk.same)))))⟩
    | false =>
      have h2p := ne_of_beq_false h2
      try have := bd_rd (by first | assumption | omega) (by first | assumption | omega)
      try have := IntWalk.i64_in (b46 + 1) (by omega)
      have o3 : (0 : Int) ≤ IntKind.i64.wrap (b46 + (1 : Int)) := by first | assumption | omega | (simp_all; done)
      have o4 : IntKind.i64.wrap (b46 + (1 : Int)) ≤ (↑n : Int) ∨ IntKind.i64.wrap (b46 + (1 : Int)) ≤ (0 : Int) := by first | assumption | omega | (simp_all; done)
      have o7 : (↑bl12.length : Int) + (↑((↑n : Int) - IntKind.i64.wrap (b46 + (1 : Int))).toNat : Int) ≤ (1000000000 : Int) := by first | assumption | omega | (simp only [List.length_append, List.length_cons, List.length_nil, List.length_map]; omega) | (simp_all; done)
      have o6 : ((↑n : Int) - IntKind.i64.wrap (b46 + (1 : Int))).toNat < ((↑n : Int) - b46).toNat := by first | assumption | omega | (simp_all; done)
      exact ⟨[.b true, .b false], kmp (by kernel_rfl) (And.intro h1 (And.intro o0 (And.intro h2 (L29ab.nx n g nb gb m al12 a13 (k_ := k_) (z_ := (bv12, bl12, b46)) ((bv12, bl12, IntKind.i64.wrap (b46 + 1))) (And.intro o3 (And.intro o4 o7)) o6 (by first | (simp only [L29ab.N, h1, h2, cond_true, cond_false]; done) | (try unfold L29ab.N; try simp only [h1, cond_true, cond_false]; try simp only [h2, cond_true, cond_false]; try rfl; done)) PopOk.same))))⟩
  | false =>
    have h1p := of_decide_eq_false h1
    exact ⟨[.b false], kmp (by kernel_rfl) (And.intro h1 (L29ab.en n g nb gb m al12 a13 (k_ := k_) (z_ := (bv12, bl12, b46)) (.e0 (bv12) (bl12) : L29ab.O) (by first | (simp only [L29ab.N, h1, cond_true, cond_false]; done) | (try unfold L29ab.N; try simp only [h1, cond_true, cond_false]; try rfl; done)) PopOk.same))⟩

theorem L29ab.e0 (n : Nat) (g : Nat → SD) (hn : (↑n : Int) ≤ 6) (nb : Nat) (gb : Nat → BD) (hnb : nb ≤ 9223372036854775807) (m : Int) (k0_1 : (r47.v n g nb gb m == 0) = true) (p0_1 : r47.v n g nb gb m = 0) (al12 : List Int) (a13 : Int) (i29a_0 : 0 ≤ a13) (i29a_1 : a13 ≤ (↑n : Int) + 1 ∨ a13 ≤ 0) (i29a_2 : (↑al12.length : Int) ≤ 1000000 * (a13 - 0)) (k1_1 : decide (a13 ≤ (↑n : Int)) = true) (p1_1 : a13 ≤ (↑n : Int)) (k1_2 : sB n nb (fun (i : Nat) => (r48.v n g nb gb m).getD i 0) a13 = true) (bv12 : Nat) (bl12 : List Int) (b46 : Int) (hinv : L29ab.inv n g nb gb m al12 a13 bv12 bl12 b46) (a0 : Nat) (a1 : List Int) (hN : L29ab.run n g nb gb m a13 bv12 bl12 b46 = (.e0 a0 a1 : L29ab.O)) : LoopTo Try.prog (loopN Try.f29 1) (L29ab.T n g nb gb m al12 a13 bv12 bl12 b46) (L29ab.H n g nb gb m al12 a13 bv12 bl12 b46) (Exit.exit 2) (L29ab.X n g nb gb m al12 a13 (.e0 a0 a1 : L29ab.O)) (L29ab.XH n g nb gb m al12 a13 (.e0 a0 a1 : L29ab.O)) := by
  have h_ := L29ab.spec n g hn nb gb hnb m k0_1 p0_1 al12 a13 i29a_0 i29a_1 i29a_2 k1_1 p1_1 k1_2 ((((↑n : Int) - b46).toNat) + 1) (bv12, bl12, b46) hinv (Nat.lt_succ_self _)
  unfold L29ab.run at hN
  simp only [hN] at h_
  exact h_

theorem L29ab.len0_1 (n : Nat) (g : Nat → SD) (nb : Nat) (gb : Nat → BD) (m : Int) (a13 : Int) : ∀ (m_ : Nat) (bv12 : Nat) (bl12 : List Int) (b46 : Int) (a0_ : Nat) (a1_ : List Int), L29ab.N n g nb gb m a13 m_ bv12 bl12 b46 = (.e0 a0_ a1_ : L29ab.O) → (a1_).length ≤ (bl12).length + m_ := by
  intro m_
  induction m_ with
  | zero =>
    intro bv12 bl12 b46 a0_ a1_ h_
    simp only [L29ab.N] at h_
    first | (cases h_; done) | (cases h_; first | exact Nat.zero_le _ | omega)
  | succ m_ ih_ =>
    intro bv12 bl12 b46 a0_ a1_ h_
    cases h1 : decide (b46 < (↑n : Int)) with
    | true =>
      have h1p := of_decide_eq_true h1
      cases h2 : IntKind.u64.wrap (↑(BitVec.ofInt 64 ((sV n nb (fun (i : Nat) => (r48.v n g nb gb m).getD i 0) a13).fdiv (2 ^ min b46.toNat 64)) &&& BitVec.ofInt 64 1).toNat : Int) == 1 with
      | true =>
        have h2p := eq_of_beq h2
        (simp only [L29ab.N, h1, h2, cond_true, cond_false] at h_; first | (have := ih_ _ _ _ _ _ h_; (try simp only [List.length_append, List.length_cons, List.length_nil, List.length_set] at this); omega) | (cases h_; done) | (cases h_; omega))
      | false =>
        have h2p := ne_of_beq_false h2
        (simp only [L29ab.N, h1, h2, cond_true, cond_false] at h_; first | (have := ih_ _ _ _ _ _ h_; (try simp only [List.length_append, List.length_cons, List.length_nil, List.length_set] at this); omega) | (cases h_; done) | (cases h_; omega))
    | false =>
      have h1p := of_decide_eq_false h1
      (simp only [L29ab.N, h1, cond_true, cond_false] at h_; first | (have := ih_ _ _ _ _ _ h_; (try simp only [List.length_append, List.length_cons, List.length_nil, List.length_set] at this); omega) | (cases h_; done) | (cases h_; omega))

theorem L29ab.lenR0_1 (n : Nat) (g : Nat → SD) (nb : Nat) (gb : Nat → BD) (m : Int) (a13 : Int) {bv12 : Nat} {bl12 : List Int} {b46 : Int} {a0_ : Nat} {a1_ : List Int} (h_ : L29ab.run n g nb gb m a13 bv12 bl12 b46 = (.e0 a0_ a1_ : L29ab.O)) : (a1_).length ≤ (bl12).length + ((((↑n : Int) - b46).toNat) + 1) := L29ab.len0_1 n g nb gb m a13 _ bv12 bl12 b46 a0_ a1_ h_

inductive L29a.O where
  | e0 (a0 : Nat) (a1 : List Int)
  | e1 (a0 : Nat) (a1 : List Int)

noncomputable def L29a.T (n : Nat) (g : Nat → SD) (nb : Nat) (gb : Nat → BD) (m : Int) (av12 : Nat) (al12 : List Int) (a13 : Int) : List AV := mkT 60 [(3, AV.ptr 0 1 1 0 0), (11, AV.ptr 3 1 1 0 0), (12, AV.ms 4 av12 1 0 al12.length), (13, AV.int IntKind.i64 a13)]

noncomputable def L29a.H (n : Nat) (g : Nat → SD) (nb : Nat) (gb : Nat → BD) (m : Int) (av12 : Nat) (al12 : List Int) (a13 : Int) : AHeap := [AObj.var (AV.sl 5 n fun (i : Nat) => AV.agg [AV.str (g i).nm, AV.int IntKind.i64 (g i).x, AV.int IntKind.i64 (g i).y, AV.sl 1 (g i).nr fun (i_1 : Nat) => AV.int IntKind.i64 ((g i).r i_1), AV.sl 1 (g i).nl fun (i_1 : Nat) => AV.int IntKind.i64 ((g i).l i_1)]), AObj.var (AV.sl 1 nb fun (i : Nat) => AV.int IntKind.u64 ((r48.v n g nb gb m).getD i 0)), AObj.var (AV.fn 49 [AV.ptr 1 1 1 0 0]), AObj.var (AV.fn 52 [AV.ptr 2 1 1 0 0, AV.ptr 0 1 1 0 0, AV.ptr 3 1 1 0 0]), AObj.row 1 av12 (Col.ints IntKind.i64 al12)]

def L29a.inv (n : Nat) (g : Nat → SD) (nb : Nat) (gb : Nat → BD) (m : Int) (av12 : Nat) (al12 : List Int) (a13 : Int) : Prop := 0 ≤ a13 ∧ (a13 ≤ (↑n : Int) + 1 ∨ a13 ≤ 0) ∧ (↑al12.length : Int) ≤ 1000000 * (a13 - 0)

noncomputable def L29a.mu (n : Nat) (g : Nat → SD) (nb : Nat) (gb : Nat → BD) (m : Int) (av12 : Nat) (al12 : List Int) (a13 : Int) : Nat := ((↑n : Int) + 1 - a13).toNat

noncomputable def L29a.E : L29a.O → Exit
  | .e0 a0 a1 => Exit.exit 0
  | .e1 a0 a1 => Exit.exit 0

noncomputable def L29a.X (n : Nat) (g : Nat → SD) (nb : Nat) (gb : Nat → BD) (m : Int) : L29a.O → List AV
  | .e0 a0 a1 => mkT 60 [(12, (AV.ms 4 a0 1 0 (List.length a1)))]
  | .e1 a0 a1 => mkT 60 [(12, (AV.ms 4 a0 1 0 (List.length a1)))]

noncomputable def L29a.XH (n : Nat) (g : Nat → SD) (nb : Nat) (gb : Nat → BD) (m : Int) : L29a.O → AHeap
  | .e0 a0 a1 => ((AObj.dead) :: ((AObj.dead) :: ((AObj.dead) :: ((AObj.dead) :: ((AObj.row 1 a0 (Col.ints IntKind.i64 a1)) :: ([]))))))
  | .e1 a0 a1 => ((AObj.var (AV.sl 5 n fun (i : Nat) => AV.agg [AV.str (g i).nm, AV.int IntKind.i64 (g i).x, AV.int IntKind.i64 (g i).y, AV.sl 1 (g i).nr fun (i_1 : Nat) => AV.int IntKind.i64 ((g i).r i_1), AV.sl 1 (g i).nl fun (i_1 : Nat) => AV.int IntKind.i64 ((g i).l i_1)])) :: ((AObj.var (AV.sl 1 nb fun (i : Nat) => AV.int IntKind.u64 ((r48.v n g nb gb m).getD i 0))) :: ((AObj.var (AV.fn 49 [AV.ptr 1 1 1 0 0])) :: ((AObj.var (AV.fn 52 [AV.ptr 2 1 1 0 0, AV.ptr 0 1 1 0 0, AV.ptr 3 1 1 0 0])) :: ((AObj.row 1 a0 (Col.ints IntKind.i64 a1)) :: ([]))))))

noncomputable def L29a.N (n : Nat) (g : Nat → SD) (nb : Nat) (gb : Nat → BD) (m : Int) : Nat → Nat → (List Int) → Int → L29a.O
  | 0, _, _, _ => .e0 default default
  | k_ + 1, av12, al12, a13 => (bif decide (a13 ≤ (↑n : Int)) then (bif sB n nb (fun (i : Nat) => (r48.v n g nb gb m).getD i 0) a13 then (match L29ab.run n g nb gb m a13 av12 al12 0 with | .e0 h3d0 h3d1 => (.e0 (h3d0) (h3d1)) ) else (L29a.N n g nb gb m k_ (av12) (al12) (IntKind.i64.wrap (a13 + 1)))) else (.e1 (av12) (al12)))

noncomputable def L29a.run (n : Nat) (g : Nat → SD) (nb : Nat) (gb : Nat → BD) (m : Int) (av12 : Nat) (al12 : List Int) (a13 : Int) : L29a.O := L29a.N n g nb gb m ((((↑n : Int) + 1 - a13).toNat) + 1) av12 al12 a13

theorem L29a.nx (n : Nat) (g : Nat → SD) (nb : Nat) (gb : Nat → BD) (m : Int) {k_ : Nat} {z_ : Nat × (List Int) × Int} {h_ : AHeap} (s_ : Nat × (List Int) × Int) (h1 : L29a.inv n g nb gb m s_.1 s_.2.1 s_.2.2) (h2 : L29a.mu n g nb gb m s_.1 s_.2.1 s_.2.2 < L29a.mu n g nb gb m z_.1 z_.2.1 z_.2.2) (h3 : L29a.N n g nb gb m k_ s_.1 s_.2.1 s_.2.2 = L29a.N n g nb gb m (k_ + 1) z_.1 z_.2.1 z_.2.2) (h4 : PopOk (L29a.H n g nb gb m z_.1 z_.2.1 z_.2.2) h_ (L29a.T n g nb gb m s_.1 s_.2.1 s_.2.2) (L29a.H n g nb gb m s_.1 s_.2.1 s_.2.2)) : LNextP (fun (z_ : Nat × (List Int) × Int) => L29a.T n g nb gb m z_.1 z_.2.1 z_.2.2) (fun (z_ : Nat × (List Int) × Int) => L29a.H n g nb gb m z_.1 z_.2.1 z_.2.2) (fun (z_ : Nat × (List Int) × Int) => L29a.inv n g nb gb m z_.1 z_.2.1 z_.2.2) (fun (z_ : Nat × (List Int) × Int) => L29a.mu n g nb gb m z_.1 z_.2.1 z_.2.2) (fun (k_ : Nat) (z_ : Nat × (List Int) × Int) => L29a.N n g nb gb m k_ z_.1 z_.2.1 z_.2.2) k_ z_ (L29a.T n g nb gb m s_.1 s_.2.1 s_.2.2) h_ := LNextP.mk (Tm := (fun (z_ : Nat × (List Int) × Int) => L29a.T n g nb gb m z_.1 z_.2.1 z_.2.2)) (Hp := (fun (z_ : Nat × (List Int) × Int) => L29a.H n g nb gb m z_.1 z_.2.1 z_.2.2)) (inv := (fun (z_ : Nat × (List Int) × Int) => L29a.inv n g nb gb m z_.1 z_.2.1 z_.2.2)) (mu := (fun (z_ : Nat × (List Int) × Int) => L29a.mu n g nb gb m z_.1 z_.2.1 z_.2.2)) (l := (fun (k_ : Nat) (z_ : Nat × (List Int) × Int) => L29a.N n g nb gb m k_ z_.1 z_.2.1 z_.2.2)) s_ h1 h2 h3 h4

theorem L29a.en (n : Nat) (g : Nat → SD) (nb : Nat) (gb : Nat → BD) (m : Int) {k_ : Nat} {z_ : Nat × (List Int) × Int} {h_ : AHeap} (o_ : L29a.O) (h3 : L29a.N n g nb gb m (k_ + 1) z_.1 z_.2.1 z_.2.2 = o_) (h4 : PopOk (L29a.H n g nb gb m z_.1 z_.2.1 z_.2.2) h_ (L29a.X n g nb gb m o_) (L29a.XH n g nb gb m o_)) : LEndP (fun (z_ : Nat × (List Int) × Int) => L29a.H n g nb gb m z_.1 z_.2.1 z_.2.2) (fun (k_ : Nat) (z_ : Nat × (List Int) × Int) => L29a.N n g nb gb m k_ z_.1 z_.2.1 z_.2.2) L29a.E (L29a.X n g nb gb m) (L29a.XH n g nb gb m) k_ z_ (L29a.E o_) (L29a.X n g nb gb m o_) h_ := LEndP.mk (Hp := (fun (z_ : Nat × (List Int) × Int) => L29a.H n g nb gb m z_.1 z_.2.1 z_.2.2)) (l := (fun (k_ : Nat) (z_ : Nat × (List Int) × Int) => L29a.N n g nb gb m k_ z_.1 z_.2.1 z_.2.2)) (oE := L29a.E) (oT := L29a.X n g nb gb m) (oH := L29a.XH n g nb gb m) o_ h3 h4

theorem L29a.spec (n : Nat) (g : Nat → SD) (hn : (↑n : Int) ≤ 6) (nb : Nat) (gb : Nat → BD) (hnb : nb ≤ 9223372036854775807) (m : Int) (k0_1 : (r47.v n g nb gb m == 0) = true) (p0_1 : r47.v n g nb gb m = 0) (k_ : Nat) (z_ : Nat × (List Int) × Int) (hi_ : L29a.inv n g nb gb m z_.1 z_.2.1 z_.2.2) (hm_ : L29a.mu n g nb gb m z_.1 z_.2.1 z_.2.2 < k_) : LoopTo Try.prog (loopN Try.f29 0) (L29a.T n g nb gb m z_.1 z_.2.1 z_.2.2) (L29a.H n g nb gb m z_.1 z_.2.1 z_.2.2) (L29a.E (L29a.N n g nb gb m k_ z_.1 z_.2.1 z_.2.2)) (L29a.X n g nb gb m (L29a.N n g nb gb m k_ z_.1 z_.2.1 z_.2.2)) (L29a.XH n g nb gb m (L29a.N n g nb gb m k_ z_.1 z_.2.1 z_.2.2)) := by
  refine LoopTo.fuelP mix (fun (z_ : Nat × (List Int) × Int) => L29a.T n g nb gb m z_.1 z_.2.1 z_.2.2) (fun (z_ : Nat × (List Int) × Int) => L29a.H n g nb gb m z_.1 z_.2.1 z_.2.2) (fun (z_ : Nat × (List Int) × Int) => L29a.inv n g nb gb m z_.1 z_.2.1 z_.2.2) (fun (z_ : Nat × (List Int) × Int) => L29a.mu n g nb gb m z_.1 z_.2.1 z_.2.2) (fun (k_ : Nat) (z_ : Nat × (List Int) × Int) => L29a.N n g nb gb m k_ z_.1 z_.2.1 z_.2.2) L29a.E (L29a.X n g nb gb m) (L29a.XH n g nb gb m) (others 60 [3, 11, 12, 13]) (others 60 [6, 7]) (others 60 [12]) ?_ k_ z_ hi_ hm_
  clear hm_ hi_ z_ k_
  intro k_ z_ hinv hmu
  obtain ⟨av12, al12, a13⟩ := z_
  have hinv : 0 ≤ a13 ∧ (a13 ≤ (↑n : Int) + 1 ∨ a13 ≤ 0) ∧ (↑al12.length : Int) ≤ 1000000 * (a13 - 0) := hinv
  have hmu : (((↑n : Int) + 1 - a13).toNat) < k_ + 1 := hmu
  cases h1 : decide (a13 ≤ (↑n : Int)) with
  | true =>
    have h1p := of_decide_eq_true h1
    try have := bd_rd (by first | assumption | omega) (by first | assumption | omega)
    have o0 : (↑n : Int) ≤ (64 : Int) := by first | assumption | omega | (simp_all; done)
    have o1 : nb ≤ (9223372036854775807 : Nat) := by first | assumption | omega | (simp_all; done)
    have o2 : (0 : Int) ≤ a13 := by first | assumption | omega | (simp_all; done)
    have o3 : a13 ≤ (6 : Int) := by first | assumption | omega | (simp_all; done)
    cases h2 : sB n nb (fun (i : Nat) => (r48.v n g nb gb m).getD i 0) a13 with
    | true =>
      try have := bd_rd (by first | assumption | omega) (by first | assumption | omega)
      try have := L29ab.lenR0_1 _ _ _ _ _ _ (by assumption); (try simp only [List.length_nil] at this)
      have o4 : (↑n : Int) ≤ (6 : Int) := by first | assumption | omega | (simp_all; done)
      have o5 : (r47.v n g nb gb m == (0 : Int)) = true := by first | assumption | omega | (simp_all; done)
      have o6 : r47.v n g nb gb m = (0 : Int) := by first | assumption | omega | (simp_all; done)
      have o7 : a13 ≤ (↑n : Int) + (1 : Int) ∨ a13 ≤ (0 : Int) := by first | assumption | omega | (simp_all; done)
      have o8 : (↑al12.length : Int) ≤ (1000000 : Int) * (a13 - (0 : Int)) := by first | assumption | omega | (simp only [List.length_append, List.length_cons, List.length_nil, List.length_map]; omega) | (simp_all; done)
      have o9 : decide (a13 ≤ (↑n : Int)) = true := by first | assumption | omega | (simp_all; done)
      have o10 : a13 ≤ (↑n : Int) := by first | assumption | omega | (simp_all; done)
      have o11 : sB n nb (fun (i : Nat) => (r48.v n g nb gb m).getD i (0 : Int)) a13 = true := by first | assumption | omega | (simp_all; done)
      have o12 : (0 : Int) ≤ (↑n : Int) ∨ (0 : Int) ≤ (0 : Int) := by first | assumption | omega | (simp_all; done)
      have o13 : (↑al12.length : Int) + (↑((↑n : Int) - (0 : Int)).toNat : Int) ≤ (1000000000 : Int) := by first | assumption | omega | (simp only [List.length_append, List.length_cons, List.length_nil, List.length_map]; omega) | (simp_all; done)
      cases h3 : L29ab.run n g nb gb m a13 av12 al12 0 with
      | e0 h3d0 h3d1 =>
        exact ⟨[.b true, .ret (AV.tup [AV.int IntKind.u64 (sV n nb (fun (i : Nat) => (r48.v n g nb gb m).getD i 0) a13), AV.bool (sB n nb (fun (i : Nat) => (r48.v n g nb gb m).getD i 0) a13)]) ([AObj.var (AV.sl 5 n fun (i : Nat) => AV.agg [AV.str (g i).nm, AV.int IntKind.i64 (g i).x, AV.int IntKind.i64 (g i).y, AV.sl 1 (g i).nr fun (i_1 : Nat) => AV.int IntKind.i64 ((g i).r i_1), AV.sl 1 (g i).nl fun (i_1 : Nat) => AV.int IntKind.i64 ((g i).l i_1)]), AObj.var (AV.sl 1 nb fun (i : Nat) => AV.int IntKind.u64 ((r48.v n g nb gb m).getD i 0)), AObj.var (AV.fn 49 [AV.ptr 1 1 1 0 0]), AObj.var (AV.fn 52 [AV.ptr 2 1 1 0 0, AV.ptr 0 1 1 0 0, AV.ptr 3 1 1 0 0]), AObj.row 1 av12 (Col.ints IntKind.i64 al12)]), .b false, .virt [0, 1, 2, 3] [], .loop (others 60 [12, 14, 45, 46]) (Exit.exit 2) (L29ab.X n g nb gb m al12 a13 (L29ab.O.e0 h3d0 h3d1)) (L29ab.XH n g nb gb m al12 a13 (L29ab.O.e0 h3d0 h3d1))], kmp (by kernel_rfl) (And.intro h1 (And.intro (c52 (n) (g) (av12) (al12) o0 (nb) (fun (i : Nat) => (r48.v n g nb gb m).getD i 0) o1 (a13) o2 o3) (And.intro (show (bnot (sB n nb (fun (i : Nat) => (r48.v n g nb gb m).getD i 0) a13)) = false by rw [h2]; try rfl) (And.intro trivial (And.intro (L29ab.e0 (n) (g) o4 (nb) (gb) o1 (m) o5 o6 (al12) (a13) o2 o7 o8 o9 o10 o11 (av12) (al12) (0) (And.intro (show (0 : Int) ≤ (0 : Int) by first | decide | exact Int.NonNeg.mk _) (And.intro o12 o13)) h3d0 h3d1 h3) (L29a.en n g nb gb m (k_ := k_) (z_ := (av12, al12, a13)) (.e0 (h3d0) (h3d1) : L29a.O) (by first | (simp only [L29a.N, h1, h2, h3, cond_true, cond_false]; done) | (try unfold L29a.N; try simp only [h1, cond_true, cond_false]; try simp only [h2, cond_true, cond_false]; try simp only [h3, cond_true, cond_false]; try rfl; done)) PopOk.same))))))⟩
    | false =>
      try have := bd_rd (by first | assumption | omega) (by first | assumption | omega)
      try have := L29ab.lenR0_1 _ _ _ _ _ _ (by assumption); (try simp only [List.length_nil] at this)
      try have := IntWalk.i64_in (a13 + 1) (by omega)
      have o14 : (0 : Int) ≤ IntKind.i64.wrap (a13 + (1 : Int)) := by first | assumption | omega | (simp_all; done)
      have o15 : IntKind.i64.wrap (a13 + (1 : Int)) ≤ (↑n : Int) + (1 : Int) ∨ IntKind.i64.wrap (a13 + (1 : Int)) ≤ (0 : Int) := by first | assumption | omega | (simp_all; done)
      have o16 : (↑al12.length : Int) ≤ (1000000 : Int) * (IntKind.i64.wrap (a13 + (1 : Int)) - (0 : Int)) := by first | assumption | omega | (simp only [List.length_append, List.length_cons, List.length_nil, List.length_map]; omega) | (simp_all; done)
      have o17 : ((↑n : Int) + (1 : Int) - IntKind.i64.wrap (a13 + (1 : Int))).toNat < ((↑n : Int) + (1 : Int) - a13).toNat := by first | assumption | omega | (simp_all; done)
      exact ⟨[.b true, .ret (AV.tup [AV.int IntKind.u64 (sV n nb (fun (i : Nat) => (r48.v n g nb gb m).getD i 0) a13), AV.bool (sB n nb (fun (i : Nat) => (r48.v n g nb gb m).getD i 0) a13)]) ([AObj.var (AV.sl 5 n fun (i : Nat) => AV.agg [AV.str (g i).nm, AV.int IntKind.i64 (g i).x, AV.int IntKind.i64 (g i).y, AV.sl 1 (g i).nr fun (i_1 : Nat) => AV.int IntKind.i64 ((g i).r i_1), AV.sl 1 (g i).nl fun (i_1 : Nat) => AV.int IntKind.i64 ((g i).l i_1)]), AObj.var (AV.sl 1 nb fun (i : Nat) => AV.int IntKind.u64 ((r48.v n g nb gb m).getD i 0)), AObj.var (AV.fn 49 [AV.ptr 1 1 1 0 0]), AObj.var (AV.fn 52 [AV.ptr 2 1 1 0 0, AV.ptr 0 1 1 0 0, AV.ptr 3 1 1 0 0]), AObj.row 1 av12 (Col.ints IntKind.i64 al12)]), .b true], kmp (by kernel_rfl) (And.intro h1 (And.intro (c52 (n) (g) (av12) (al12) o0 (nb) (fun (i : Nat) => (r48.v n g nb gb m).getD i 0) o1 (a13) o2 o3) (And.intro (show (bnot (sB n nb (fun (i : Nat) => (r48.v n g nb gb m).getD i 0) a13)) = true by rw [h2]; try rfl) (L29a.nx n g nb gb m (k_ := k_) (z_ := (av12, al12, a13)) ((av12, al12, IntKind.i64.wrap (a13 + 1))) (And.intro o14 (And.intro o15 o16)) o17 (by first | (simp only [L29a.N, h1, h2, cond_true, cond_false]; done) | (try unfold L29a.N; try simp only [h1, cond_true, cond_false]; try simp only [h2, cond_true, cond_false]; try rfl; done)) PopOk.same))))⟩
  | false =>
    have h1p := of_decide_eq_false h1
    exact ⟨[.b false], kmp (by kernel_rfl) (And.intro h1 (L29a.en n g nb gb m (k_ := k_) (z_ := (av12, al12, a13)) (.e1 (av12) (al12) : L29a.O) (by first | (simp only [L29a.N, h1, cond_true, cond_false]; done) | (try unfold L29a.N; try simp only [h1, cond_true, cond_false]; try rfl; done)) PopOk.same))⟩

theorem L29a.e0 (n : Nat) (g : Nat → SD) (hn : (↑n : Int) ≤ 6) (nb : Nat) (gb : Nat → BD) (hnb : nb ≤ 9223372036854775807) (m : Int) (k0_1 : (r47.v n g nb gb m == 0) = true) (p0_1 : r47.v n g nb gb m = 0) (av12 : Nat) (al12 : List Int) (a13 : Int) (hinv : L29a.inv n g nb gb m av12 al12 a13) (a0 : Nat) (a1 : List Int) (hN : L29a.run n g nb gb m av12 al12 a13 = (.e0 a0 a1 : L29a.O)) : LoopTo Try.prog (loopN Try.f29 0) (L29a.T n g nb gb m av12 al12 a13) (L29a.H n g nb gb m av12 al12 a13) (Exit.exit 0) (L29a.X n g nb gb m (.e0 a0 a1 : L29a.O)) (L29a.XH n g nb gb m (.e0 a0 a1 : L29a.O)) := by
  have h_ := L29a.spec n g hn nb gb hnb m k0_1 p0_1 ((((↑n : Int) + 1 - a13).toNat) + 1) (av12, al12, a13) hinv (Nat.lt_succ_self _)
  unfold L29a.run at hN
  simp only [hN] at h_
  exact h_

theorem L29a.e1 (n : Nat) (g : Nat → SD) (hn : (↑n : Int) ≤ 6) (nb : Nat) (gb : Nat → BD) (hnb : nb ≤ 9223372036854775807) (m : Int) (k0_1 : (r47.v n g nb gb m == 0) = true) (p0_1 : r47.v n g nb gb m = 0) (av12 : Nat) (al12 : List Int) (a13 : Int) (hinv : L29a.inv n g nb gb m av12 al12 a13) (a0 : Nat) (a1 : List Int) (hN : L29a.run n g nb gb m av12 al12 a13 = (.e1 a0 a1 : L29a.O)) : LoopTo Try.prog (loopN Try.f29 0) (L29a.T n g nb gb m av12 al12 a13) (L29a.H n g nb gb m av12 al12 a13) (Exit.exit 0) (L29a.X n g nb gb m (.e1 a0 a1 : L29a.O)) (L29a.XH n g nb gb m (.e1 a0 a1 : L29a.O)) := by
  have h_ := L29a.spec n g hn nb gb hnb m k0_1 p0_1 ((((↑n : Int) + 1 - a13).toNat) + 1) (av12, al12, a13) hinv (Nat.lt_succ_self _)
  unfold L29a.run at hN
  simp only [hN] at h_
  exact h_

theorem L29a.leq1_1 (n : Nat) (g : Nat → SD) (nb : Nat) (gb : Nat → BD) (m : Int) : ∀ (m_ : Nat) (av12 : Nat) (al12 : List Int) (a13 : Int) (a0_ : Nat) (a1_ : List Int), L29a.N n g nb gb m m_ av12 al12 a13 = (.e1 a0_ a1_ : L29a.O) → (a1_).length = (al12).length := by
  intro m_
  induction m_ with
  | zero =>
    intro av12 al12 a13 a0_ a1_ h_
    simp only [L29a.N] at h_
    cases h_
    try rfl
  | succ m_ ih_ =>
    intro av12 al12 a13 a0_ a1_ h_
    cases h1 : decide (a13 ≤ (↑n : Int)) with
    | true =>
      have h1p := of_decide_eq_true h1
      cases h2 : sB n nb (fun (i : Nat) => (r48.v n g nb gb m).getD i 0) a13 with
      | true =>
        cases h3 : L29ab.run n g nb gb m a13 av12 al12 0 with
        | e0 h3d0 h3d1 =>
          (simp only [L29a.N, h1, h2, h3, cond_true, cond_false] at h_; first | (have q_ := ih_ _ _ _ _ _ h_; (try have := L29ab.lenR0_1 _ _ _ _ _ _ (by assumption); (try simp only [List.length_nil] at this)); (try simp only [List.length_set] at *); omega) | (cases h_; done) | (cases h_; first | rfl | simp))
      | false =>
        (simp only [L29a.N, h1, h2, cond_true, cond_false] at h_; first | (have q_ := ih_ _ _ _ _ _ h_; (try have := L29ab.lenR0_1 _ _ _ _ _ _ (by assumption); (try simp only [List.length_nil] at this)); (try simp only [List.length_set] at *); omega) | (cases h_; done) | (cases h_; first | rfl | simp))
    | false =>
      have h1p := of_decide_eq_false h1
      (simp only [L29a.N, h1, cond_true, cond_false] at h_; first | (have q_ := ih_ _ _ _ _ _ h_; (try have := L29ab.lenR0_1 _ _ _ _ _ _ (by assumption); (try simp only [List.length_nil] at this)); (try simp only [List.length_set] at *); omega) | (cases h_; done) | (cases h_; first | rfl | simp))

theorem L29a.leqR1_1 (n : Nat) (g : Nat → SD) (nb : Nat) (gb : Nat → BD) (m : Int) {av12 : Nat} {al12 : List Int} {a13 : Int} {a0_ : Nat} {a1_ : List Int} (h_ : L29a.run n g nb gb m av12 al12 a13 = (.e1 a0_ a1_ : L29a.O)) : (a1_).length = (al12).length := L29a.leq1_1 n g nb gb m _ av12 al12 a13 a0_ a1_ h_

noncomputable def r29.v0 (n : Nat) (g : Nat → SD) (nb : Nat) (gb : Nat → BD) (m : Int) : List Int := (bif r47.v n g nb gb m == 0 then (match L29a.run n g nb gb m 0 [] 0 with | .e0 h2d0 h2d1 => h2d1 | .e1 h2d0 h2d1 => h2d1 ) else ([] : List Int))

noncomputable def r29.v1 (n : Nat) (g : Nat → SD) (nb : Nat) (gb : Nat → BD) (m : Int) : Int := (bif r47.v n g nb gb m == 0 then (match L29a.run n g nb gb m 0 [] 0 with | .e0 h2d0 h2d1 => 0 | .e1 h2d0 h2d1 => 0 ) else r47.v n g nb gb m)

noncomputable abbrev r29.h0 (n : Nat) (g : Nat → SD) (nb : Nat) (gb : Nat → BD) (m : Int) : AHeap := ([AObj.var (AV.sl 5 n fun (i : Nat) => AV.agg [AV.str (g i).nm, AV.int IntKind.i64 (g i).x, AV.int IntKind.i64 (g i).y, AV.sl 1 (g i).nr fun (i_1 : Nat) => AV.int IntKind.i64 ((g i).r i_1), AV.sl 1 (g i).nl fun (i_1 : Nat) => AV.int IntKind.i64 ((g i).l i_1)])])

theorem r29 (n : Nat) (g : Nat → SD) (hn : (↑n : Int) ≤ 6) (nb : Nat) (gb : Nat → BD) (hnb : nb ≤ 9223372036854775807) (m : Int) (h : AHeap) : Ret Try.prog 29 ([sts n g, blks nb gb, AV.int IntKind.i64 m]) h (AV.tup [(avInts IntKind.i64 (r29.v0 n g nb gb m)), (AV.int IntKind.i64 (r29.v1 n g nb gb m))]) h := by
  try have := bd_rd (by first | assumption | omega) (by first | assumption | omega)
  have o0 : n ≤ (9223372036854775807 : Nat) := by first | assumption | omega | (simp_all; done)
  have o1 : nb ≤ (9223372036854775807 : Nat) := by first | assumption | omega | (simp_all; done)
  cases h1 : r47.v n g nb gb m == 0 with
  | true =>
    have h1p := eq_of_beq h1
    try have := bd_rd (by first | assumption | omega) (by first | assumption | omega)
    have o2 : ∀ (i : Nat), i < n → (g i).nl = (g i).nr := by first | assumption | omega | (apply rd_g <;> first | assumption | omega) | (simp_all; done)
    have o3 : nb ≤ (256 : Nat) := by first | assumption | omega | (simp_all; done)
    have o4 : ∀ (i : Nat), i < nb → (r36.v (gb i).a (gb i).b (gb i).c (gb i).d (gb i).e (gb i).f == (0 : Int)) = true := by first | assumption | omega | (apply rd_b <;> first | assumption | omega) | (simp_all; done)
    have o5 : r37.v m = true := by first | assumption | omega | (apply rd_d <;> first | assumption | omega) | (simp_all; done)
    have o6 : (↑n : Int) ≤ (6 : Int) := by first | assumption | omega | (simp_all; done)
    have o7 : (r47.v n g nb gb m == (0 : Int)) = true := by first | assumption | omega | (simp_all; done)
    have o8 : r47.v n g nb gb m = (0 : Int) := by first | assumption | omega | (simp_all; done)
    have o9 : (0 : Int) ≤ (↑n : Int) + (1 : Int) ∨ (0 : Int) ≤ (0 : Int) := by first | assumption | omega | (simp_all; done)
    cases h2 : L29a.run n g nb gb m 0 [] 0 with
    | e0 h2d0 h2d1 =>
      try have := bd_rd (by first | assumption | omega) (by first | assumption | omega)
      try have := L29a.leqR1_1 _ _ _ _ _ (by assumption); (try simp only [List.length_replicate] at this)
      have o10 : (0 : Nat) + h2d1.length ≤ (Col.ints IntKind.i64 h2d1).len := by first | assumption | omega | (simp only [List.length_append, List.length_cons, List.length_nil, List.length_map]; omega) | rfl | (exact Nat.le_refl _) | (simp [Col.len]; done) | (simp only [Col.len, zero_bool, zero_int, List.length_replicate, List.length_set] at *; omega) | (simp_all; done)
      exact Ret.of_run1 mix [(avInts IntKind.i64 (r29.v0 n g nb gb m)), (AV.int IntKind.i64 (r29.v1 n g nb gb m))] Try.func29 rfl [.ret (AV.int IntKind.i64 (r47.v n g nb gb m)) (r29.h0 n g nb gb m), .b false, .ret (AV.sl 1 nb fun (i : Nat) => AV.int IntKind.u64 ((r48.v n g nb gb m).getD i 0)) (r29.h0 n g nb gb m), .virt [] [(none, 12, 1, Col.ints IntKind.i64 [])], .loop (others 60 [3, 11, 12, 13]) (Exit.exit 0) (L29a.X n g nb gb m (L29a.O.e0 h2d0 h2d1)) (L29a.XH n g nb gb m (L29a.O.e0 h2d0 h2d1))] (by simp) (by simp) (kmp (by kernel_rfl) (And.intro (r47 (n) (g) o0 (nb) (gb) o1 (m) (r29.h0 n g nb gb m)) (And.intro (show (bnot (r47.v n g nb gb m == 0)) = false by rw [h1]; try rfl) (And.intro (c48 (n) (g) o0 o2 (nb) (gb) o3 o4 (m) o5 (r29.h0 n g nb gb m)) (And.intro (And.intro (rfl : AV.snil = AV.snil) (And.intro (rfl : (0 : Nat) = 0) trivial)) (And.intro (L29a.e0 (n) (g) o6 (nb) (gb) o1 (m) o7 o8 (0) ([]) (0) (And.intro (show (0 : Int) ≤ (0 : Int) by first | decide | exact Int.NonNeg.mk _) (And.intro o9 (show (0 : Int) ≤ (0 : Int) by first | decide | exact Int.NonNeg.mk _))) h2d0 h2d1 h2) (And.intro (And.intro (rfl : h2d0 = h2d0) (And.intro (show (1 : Nat) = (1 : Nat) by first | decide | exact Int.NonNeg.mk _) (And.intro o10 (show ((avInts IntKind.i64 h2d1)) = ((avInts IntKind.i64 (r29.v0 n g nb gb m))) by first | (simp only [r29.v0, r29.v1, h1, h2, cond_true, cond_false]; done) | (try unfold r29.v0; try unfold r29.v1; try simp only [h1, cond_true, cond_false]; try simp only [h2, cond_true, cond_false]; try rfl; done) | rfl)))) (And.intro (show (AV.int IntKind.i64 0) = ((AV.int IntKind.i64 (r29.v1 n g nb gb m))) by first | (simp only [r29.v0, r29.v1, h1, h2, cond_true, cond_false]; done) | (try unfold r29.v0; try unfold r29.v1; try simp only [h1, cond_true, cond_false]; try simp only [h2, cond_true, cond_false]; try rfl; done) | rfl) trivial)))))))) h
    | e1 h2d0 h2d1 =>
      try have := bd_rd (by first | assumption | omega) (by first | assumption | omega)
      try have := L29a.leqR1_1 _ _ _ _ _ (by assumption); (try simp only [List.length_replicate] at this)
      have o10 : (0 : Nat) + h2d1.length ≤ (Col.ints IntKind.i64 h2d1).len := by first | assumption | omega | (simp only [List.length_append, List.length_cons, List.length_nil, List.length_map]; omega) | rfl | (exact Nat.le_refl _) | (simp [Col.len]; done) | (simp only [Col.len, zero_bool, zero_int, List.length_replicate, List.length_set] at *; omega) | (simp_all; done)
      exact Ret.of_run1 mix [(avInts IntKind.i64 (r29.v0 n g nb gb m)), (AV.int IntKind.i64 (r29.v1 n g nb gb m))] Try.func29 rfl [.ret (AV.int IntKind.i64 (r47.v n g nb gb m)) (r29.h0 n g nb gb m), .b false, .ret (AV.sl 1 nb fun (i : Nat) => AV.int IntKind.u64 ((r48.v n g nb gb m).getD i 0)) (r29.h0 n g nb gb m), .virt [] [(none, 12, 1, Col.ints IntKind.i64 [])], .loop (others 60 [3, 11, 12, 13]) (Exit.exit 0) (L29a.X n g nb gb m (L29a.O.e1 h2d0 h2d1)) (L29a.XH n g nb gb m (L29a.O.e1 h2d0 h2d1))] (by simp) (by simp) (kmp (by kernel_rfl) (And.intro (r47 (n) (g) o0 (nb) (gb) o1 (m) (r29.h0 n g nb gb m)) (And.intro (show (bnot (r47.v n g nb gb m == 0)) = false by rw [h1]; try rfl) (And.intro (c48 (n) (g) o0 o2 (nb) (gb) o3 o4 (m) o5 (r29.h0 n g nb gb m)) (And.intro (And.intro (rfl : AV.snil = AV.snil) (And.intro (rfl : (0 : Nat) = 0) trivial)) (And.intro (L29a.e1 (n) (g) o6 (nb) (gb) o1 (m) o7 o8 (0) ([]) (0) (And.intro (show (0 : Int) ≤ (0 : Int) by first | decide | exact Int.NonNeg.mk _) (And.intro o9 (show (0 : Int) ≤ (0 : Int) by first | decide | exact Int.NonNeg.mk _))) h2d0 h2d1 h2) (And.intro (And.intro (rfl : h2d0 = h2d0) (And.intro (show (1 : Nat) = (1 : Nat) by first | decide | exact Int.NonNeg.mk _) (And.intro o10 (show ((avInts IntKind.i64 h2d1)) = ((avInts IntKind.i64 (r29.v0 n g nb gb m))) by first | (simp only [r29.v0, r29.v1, h1, h2, cond_true, cond_false]; done) | (try unfold r29.v0; try unfold r29.v1; try simp only [h1, cond_true, cond_false]; try simp only [h2, cond_true, cond_false]; try rfl; done) | rfl)))) (And.intro (show (AV.int IntKind.i64 0) = ((AV.int IntKind.i64 (r29.v1 n g nb gb m))) by first | (simp only [r29.v0, r29.v1, h1, h2, cond_true, cond_false]; done) | (try unfold r29.v0; try unfold r29.v1; try simp only [h1, cond_true, cond_false]; try simp only [h2, cond_true, cond_false]; try rfl; done) | rfl) trivial)))))))) h
  | false =>
    have h1p := ne_of_beq_false h1
    exact Ret.val (show (AV.tup [(avInts IntKind.i64 ([] : List Int)), AV.int IntKind.i64 (r47.v n g nb gb m)]) = (AV.tup [(avInts IntKind.i64 (r29.v0 n g nb gb m)), (AV.int IntKind.i64 (r29.v1 n g nb gb m))]) by first | (simp only [r29.v0, r29.v1, h1, cond_true, cond_false]; done) | (try unfold r29.v0; try unfold r29.v1; try simp only [h1, cond_true, cond_false]; try rfl; done) | rfl) (Ret.of_run1 mix [(avInts IntKind.i64 ([] : List Int)), AV.int IntKind.i64 (r47.v n g nb gb m)] Try.func29 rfl [.ret (AV.int IntKind.i64 (r47.v n g nb gb m)) (r29.h0 n g nb gb m), .b true] (by simp) (by simp) (kmp (by kernel_rfl) (And.intro (r47 (n) (g) o0 (nb) (gb) o1 (m) (r29.h0 n g nb gb m)) (And.intro (show (bnot (r47.v n g nb gb m == 0)) = true by rw [h1]; try rfl) (And.intro (rfl : ((avInts IntKind.i64 ([] : List Int))) = ((avInts IntKind.i64 ([] : List Int)))) (And.intro (rfl : (AV.int IntKind.i64 (r47.v n g nb gb m)) = (AV.int IntKind.i64 (r47.v n g nb gb m))) trivial))))) h)

inductive L54a.O where
  | e0 (a0 : Bool)
  | e1

noncomputable def L54a.T (k : Nat) (a : Nat → Int) (l : Nat) (b : Nat → Int) (a5 : Int) : List AV := mkT 40 [(0, AV.sl 1 k fun (i : Nat) => AV.int IntKind.i64 (a i)), (1, AV.sl 1 l fun (i : Nat) => AV.int IntKind.i64 (b i)), (5, AV.int IntKind.i64 a5)]

noncomputable def L54a.H (k : Nat) (a : Nat → Int) (l : Nat) (b : Nat → Int) (a5 : Int) : AHeap := []

def L54a.inv (k : Nat) (a : Nat → Int) (l : Nat) (b : Nat → Int) (a5 : Int) : Prop := 0 ≤ a5 ∧ (a5 ≤ (↑k : Int) ∨ a5 ≤ 0)

noncomputable def L54a.mu (k : Nat) (a : Nat → Int) (l : Nat) (b : Nat → Int) (a5 : Int) : Nat := ((↑k : Int) - a5).toNat

noncomputable def L54a.E : L54a.O → Exit
  | .e0 a0 => Exit.ret
  | .e1 => Exit.exit 0

noncomputable def L54a.X (k : Nat) (a : Nat → Int) (l : Nat) (b : Nat → Int) : L54a.O → List AV
  | .e0 a0 => mkT 40 [(4, (AV.bool a0))]
  | .e1 => mkT 40 []

noncomputable def L54a.XH (k : Nat) (a : Nat → Int) (l : Nat) (b : Nat → Int) : L54a.O → AHeap
  | .e0 a0 => ([])
  | .e1 => ([])

noncomputable def L54a.N (k : Nat) (a : Nat → Int) (b : Nat → Int) : Nat → Int → L54a.O
  | 0, _ => .e0 default
  | k_ + 1, a5 => (bif decide (a5 < (↑k : Int)) then (bif a a5.toNat == b a5.toNat then (L54a.N k a b k_ (IntKind.i64.wrap (a5 + 1))) else (.e0 (decide (a a5.toNat < b a5.toNat)))) else (.e1))

noncomputable def L54a.run (k : Nat) (a : Nat → Int) (b : Nat → Int) (a5 : Int) : L54a.O := L54a.N k a b ((((↑k : Int) - a5).toNat) + 1) a5

theorem L54a.nx (k : Nat) (a : Nat → Int) (l : Nat) (b : Nat → Int) {k_ : Nat} {z_ : Int} {h_ : AHeap} (s_ : Int) (h1 : L54a.inv k a l b s_) (h2 : L54a.mu k a l b s_ < L54a.mu k a l b z_) (h3 : L54a.N k a b k_ s_ = L54a.N k a b (k_ + 1) z_) (h4 : PopOk (L54a.H k a l b z_) h_ (L54a.T k a l b s_) (L54a.H k a l b s_)) : LNextP (fun (z_ : Int) => L54a.T k a l b z_) (fun (z_ : Int) => L54a.H k a l b z_) (fun (z_ : Int) => L54a.inv k a l b z_) (fun (z_ : Int) => L54a.mu k a l b z_) (fun (k_ : Nat) (z_ : Int) => L54a.N k a b k_ z_) k_ z_ (L54a.T k a l b s_) h_ := LNextP.mk (Tm := (fun (z_ : Int) => L54a.T k a l b z_)) (Hp := (fun (z_ : Int) => L54a.H k a l b z_)) (inv := (fun (z_ : Int) => L54a.inv k a l b z_)) (mu := (fun (z_ : Int) => L54a.mu k a l b z_)) (l := (fun (k_ : Nat) (z_ : Int) => L54a.N k a b k_ z_)) s_ h1 h2 h3 h4

theorem L54a.en (k : Nat) (a : Nat → Int) (l : Nat) (b : Nat → Int) {k_ : Nat} {z_ : Int} {h_ : AHeap} (o_ : L54a.O) (h3 : L54a.N k a b (k_ + 1) z_ = o_) (h4 : PopOk (L54a.H k a l b z_) h_ (L54a.X k a l b o_) (L54a.XH k a l b o_)) : LEndP (fun (z_ : Int) => L54a.H k a l b z_) (fun (k_ : Nat) (z_ : Int) => L54a.N k a b k_ z_) L54a.E (L54a.X k a l b) (L54a.XH k a l b) k_ z_ (L54a.E o_) (L54a.X k a l b o_) h_ := LEndP.mk (Hp := (fun (z_ : Int) => L54a.H k a l b z_)) (l := (fun (k_ : Nat) (z_ : Int) => L54a.N k a b k_ z_)) (oE := L54a.E) (oT := L54a.X k a l b) (oH := L54a.XH k a l b) o_ h3 h4

theorem L54a.spec (k : Nat) (a : Nat → Int) (hk : k ≤ 9223372036854775807) (l : Nat) (b : Nat → Int) (hl : l ≤ 9223372036854775807) (k0_1 : ((↑k : Int) == (↑l : Int)) = true) (p0_1 : (↑k : Int) = (↑l : Int)) (k_ : Nat) (z_ : Int) (hi_ : L54a.inv k a l b z_) (hm_ : L54a.mu k a l b z_ < k_) : LoopTo Try.prog (loopN Try.f54 0) (L54a.T k a l b z_) (L54a.H k a l b z_) (L54a.E (L54a.N k a b k_ z_)) (L54a.X k a l b (L54a.N k a b k_ z_)) (L54a.XH k a l b (L54a.N k a b k_ z_)) := by
  refine LoopTo.fuelP mix (fun (z_ : Int) => L54a.T k a l b z_) (fun (z_ : Int) => L54a.H k a l b z_) (fun (z_ : Int) => L54a.inv k a l b z_) (fun (z_ : Int) => L54a.mu k a l b z_) (fun (k_ : Nat) (z_ : Int) => L54a.N k a b k_ z_) L54a.E (L54a.X k a l b) (L54a.XH k a l b) (others 40 [0, 1, 5]) (others 40 [4]) (others 40 []) ?_ k_ z_ hi_ hm_
  clear hm_ hi_ z_ k_
  intro k_ z_ hinv hmu
  revert hinv hmu; revert z_; intro a5 hinv hmu
  have hinv : 0 ≤ a5 ∧ (a5 ≤ (↑k : Int) ∨ a5 ≤ 0) := hinv
  have hmu : (((↑k : Int) - a5).toNat) < k_ + 1 := hmu
  cases h1 : decide (a5 < (↑k : Int)) with
  | true =>
    have h1p := of_decide_eq_true h1
    have o0 : (0 : Int) ≤ a5 := by first | assumption | omega | (simp_all; done)
    have o1 : a5 < (↑k : Int) := by first | assumption | omega | (simp_all; done)
    have o2 : a5 < (↑l : Int) := by first | assumption | omega | (simp_all; done)
    cases h2 : a a5.toNat == b a5.toNat with
    | true =>
      have h2p := eq_of_beq h2
      try have := IntWalk.i64_in (a5 + 1) (by omega)
      have o3 : (0 : Int) ≤ IntKind.i64.wrap (a5 + (1 : Int)) := by first | assumption | omega | (simp_all; done)
      have o4 : IntKind.i64.wrap (a5 + (1 : Int)) ≤ (↑k : Int) ∨ IntKind.i64.wrap (a5 + (1 : Int)) ≤ (0 : Int) := by first | assumption | omega | (simp_all; done)
      have o5 : ((↑k : Int) - IntKind.i64.wrap (a5 + (1 : Int))).toNat < ((↑k : Int) - a5).toNat := by first | assumption | omega | (simp_all; done)
      exact ⟨[.b true, .b false], kmp (by kernel_rfl) (And.intro h1 (And.intro (And.intro o0 o1) (And.intro (And.intro o0 o2) (And.intro (show (bnot (a a5.toNat == b a5.toNat)) = false by rw [h2]; try rfl) (L54a.nx k a l b (k_ := k_) (z_ := a5) (IntKind.i64.wrap (a5 + 1)) (And.intro o3 o4) o5 (by first | (simp only [L54a.N, h1, h2, cond_true, cond_false]; done) | (try unfold L54a.N; try simp only [h1, cond_true, cond_false]; try simp only [h2, cond_true, cond_false]; try rfl; done)) PopOk.same)))))⟩
    | false =>
      have h2p := ne_of_beq_false h2
      exact ⟨[.b true, .b true], kmp (by kernel_rfl) (And.intro h1 (And.intro (And.intro o0 o1) (And.intro (And.intro o0 o2) (And.intro (show (bnot (a a5.toNat == b a5.toNat)) = true by rw [h2]; try rfl) (And.intro (And.intro o0 o1) (And.intro (And.intro o0 o2) (L54a.en k a l b (k_ := k_) (z_ := a5) (.e0 (decide (a a5.toNat < b a5.toNat)) : L54a.O) (by first | (simp only [L54a.N, h1, h2, cond_true, cond_false]; done) | (try unfold L54a.N; try simp only [h1, cond_true, cond_false]; try simp only [h2, cond_true, cond_false]; try rfl; done)) PopOk.same)))))))⟩
  | false =>
    have h1p := of_decide_eq_false h1
    exact ⟨[.b false], kmp (by kernel_rfl) (And.intro h1 (L54a.en k a l b (k_ := k_) (z_ := a5) (.e1 : L54a.O) (by first | (simp only [L54a.N, h1, cond_true, cond_false]; done) | (try unfold L54a.N; try simp only [h1, cond_true, cond_false]; try rfl; done)) PopOk.same))⟩

theorem L54a.e0 (k : Nat) (a : Nat → Int) (hk : k ≤ 9223372036854775807) (l : Nat) (b : Nat → Int) (hl : l ≤ 9223372036854775807) (k0_1 : ((↑k : Int) == (↑l : Int)) = true) (p0_1 : (↑k : Int) = (↑l : Int)) (a5 : Int) (hinv : L54a.inv k a l b a5) (a0 : Bool) (hN : L54a.run k a b a5 = (.e0 a0 : L54a.O)) : LoopTo Try.prog (loopN Try.f54 0) (L54a.T k a l b a5) (L54a.H k a l b a5) (Exit.ret) (L54a.X k a l b (.e0 a0 : L54a.O)) (L54a.XH k a l b (.e0 a0 : L54a.O)) := by
  have h_ := L54a.spec k a hk l b hl k0_1 p0_1 ((((↑k : Int) - a5).toNat) + 1) a5 hinv (Nat.lt_succ_self _)
  unfold L54a.run at hN
  simp only [hN] at h_
  exact h_

theorem L54a.e1 (k : Nat) (a : Nat → Int) (hk : k ≤ 9223372036854775807) (l : Nat) (b : Nat → Int) (hl : l ≤ 9223372036854775807) (k0_1 : ((↑k : Int) == (↑l : Int)) = true) (p0_1 : (↑k : Int) = (↑l : Int)) (a5 : Int) (hinv : L54a.inv k a l b a5) (hN : L54a.run k a b a5 = (.e1 : L54a.O)) : LoopTo Try.prog (loopN Try.f54 0) (L54a.T k a l b a5) (L54a.H k a l b a5) (Exit.exit 0) (L54a.X k a l b (.e1 : L54a.O)) (L54a.XH k a l b (.e1 : L54a.O)) := by
  have h_ := L54a.spec k a hk l b hl k0_1 p0_1 ((((↑k : Int) - a5).toNat) + 1) a5 hinv (Nat.lt_succ_self _)
  unfold L54a.run at hN
  simp only [hN] at h_
  exact h_

noncomputable def r54.v (k : Nat) (a : Nat → Int) (l : Nat) (b : Nat → Int) : Bool := (bif (↑k : Int) == (↑l : Int) then (match L54a.run k a b 0 with | .e0 h2d0 => h2d0 | .e1 => false ) else decide ((↑k : Int) < (↑l : Int)))

theorem r54 (k : Nat) (a : Nat → Int) (hk : k ≤ 9223372036854775807) (l : Nat) (b : Nat → Int) (hl : l ≤ 9223372036854775807) (h : AHeap) : Ret Try.prog 54 ([AV.sl 1 k fun (i : Nat) => AV.int IntKind.i64 (a i), AV.sl 1 l fun (i : Nat) => AV.int IntKind.i64 (b i)]) h (AV.bool (r54.v k a l b)) h := by
  cases h1 : (↑k : Int) == (↑l : Int) with
  | true =>
    have h1p := eq_of_beq h1
    have o0 : k ≤ (9223372036854775807 : Nat) := by first | assumption | omega | (simp_all; done)
    have o1 : l ≤ (9223372036854775807 : Nat) := by first | assumption | omega | (simp_all; done)
    have o2 : ((↑k : Int) == (↑l : Int)) = true := by first | assumption | omega | (simp_all; done)
    have o3 : (↑k : Int) = (↑l : Int) := by first | assumption | omega | (simp_all; done)
    have o4 : (0 : Int) ≤ (↑k : Int) ∨ (0 : Int) ≤ (0 : Int) := by first | assumption | omega | (simp_all; done)
    cases h2 : L54a.run k a b 0 with
    | e0 h2d0 =>
      exact Ret.of_run1 mix [(AV.bool (r54.v k a l b))] Try.func54 rfl [.b false, .loop (others 40 [0, 1, 5]) (Exit.ret) (L54a.X k a l b (L54a.O.e0 h2d0)) (L54a.XH k a l b (L54a.O.e0 h2d0))] (by simp) (by simp) (kmp (by kernel_rfl) (And.intro (show (bnot ((↑k : Int) == (↑l : Int))) = false by rw [h1]; try rfl) (And.intro (L54a.e0 (k) (a) o0 (l) (b) o1 o2 o3 (0) (And.intro (show (0 : Int) ≤ (0 : Int) by first | decide | exact Int.NonNeg.mk _) o4) h2d0 h2) (And.intro (show (AV.bool h2d0) = ((AV.bool (r54.v k a l b))) by first | (simp only [r54.v, h1, h2, cond_true, cond_false]; done) | (try unfold r54.v; try simp only [h1, cond_true, cond_false]; try simp only [h2, cond_true, cond_false]; try rfl; done) | rfl) trivial)))) h
    | e1 =>
      exact Ret.of_run1 mix [(AV.bool (r54.v k a l b))] Try.func54 rfl [.b false, .loop (others 40 [0, 1, 5]) (Exit.exit 0) (L54a.X k a l b L54a.O.e1) (L54a.XH k a l b L54a.O.e1)] (by simp) (by simp) (kmp (by kernel_rfl) (And.intro (show (bnot ((↑k : Int) == (↑l : Int))) = false by rw [h1]; try rfl) (And.intro (L54a.e1 (k) (a) o0 (l) (b) o1 o2 o3 (0) (And.intro (show (0 : Int) ≤ (0 : Int) by first | decide | exact Int.NonNeg.mk _) o4) h2) (And.intro (show (AV.bool false) = ((AV.bool (r54.v k a l b))) by first | (simp only [r54.v, h1, h2, cond_true, cond_false]; done) | (try unfold r54.v; try simp only [h1, cond_true, cond_false]; try simp only [h2, cond_true, cond_false]; try rfl; done) | rfl) trivial)))) h
  | false =>
    have h1p := ne_of_beq_false h1
    exact Ret.of_run1 mix [(AV.bool (r54.v k a l b))] Try.func54 rfl [.b true] (by simp) (by simp) (kmp (by kernel_rfl) (And.intro (show (bnot ((↑k : Int) == (↑l : Int))) = true by rw [h1]; try rfl) (And.intro (show (AV.bool (decide ((↑k : Int) < (↑l : Int)))) = ((AV.bool (r54.v k a l b))) by first | (simp only [r54.v, h1, cond_true, cond_false]; done) | (try unfold r54.v; try simp only [h1, cond_true, cond_false]; try rfl; done) | rfl) trivial))) h

inductive L55ab.O where
  | e0 (a0 : Bool) (a1 : Bool)

noncomputable def L55ab.T (n : Nat) (g : Nat → SD) (nb : Nat) (gb : Nat → BD) (m : Int) (s : Int) (a9 : Int) (b10 : Bool) (b11 : Bool) (b12 : Int) : List AV := mkT 50 [(0, AV.sl 5 n fun (i : Nat) => AV.agg [AV.str (g i).nm, AV.int IntKind.i64 (g i).x, AV.int IntKind.i64 (g i).y, AV.sl 1 (g i).nr fun (i_1 : Nat) => AV.int IntKind.i64 ((g i).r i_1), AV.sl 1 (g i).nl fun (i_1 : Nat) => AV.int IntKind.i64 ((g i).l i_1)]), (1, AV.sl 7 nb fun (i : Nat) => AV.agg [AV.str (gb i).nm, AV.int IntKind.i64 (gb i).a, AV.int IntKind.i64 (gb i).b, AV.int IntKind.i64 (gb i).c, AV.int IntKind.i64 (gb i).d, AV.int IntKind.i64 (gb i).e, AV.int IntKind.i64 (gb i).f]), (2, AV.int IntKind.i64 m), (3, AV.int IntKind.i64 s), (9, AV.int IntKind.i64 a9), (10, AV.bool b10), (11, AV.bool b11), (12, AV.int IntKind.i64 b12)]

noncomputable def L55ab.H (n : Nat) (g : Nat → SD) (nb : Nat) (gb : Nat → BD) (m : Int) (s : Int) (a9 : Int) (b10 : Bool) (b11 : Bool) (b12 : Int) : AHeap := []

def L55ab.inv (n : Nat) (g : Nat → SD) (nb : Nat) (gb : Nat → BD) (m : Int) (s : Int) (a9 : Int) (b10 : Bool) (b11 : Bool) (b12 : Int) : Prop := 0 ≤ b12 ∧ (b12 ≤ (↑n : Int) ∨ b12 ≤ 0)

noncomputable def L55ab.mu (n : Nat) (g : Nat → SD) (nb : Nat) (gb : Nat → BD) (m : Int) (s : Int) (a9 : Int) (b10 : Bool) (b11 : Bool) (b12 : Int) : Nat := ((↑n : Int) - b12).toNat

noncomputable def L55ab.E : L55ab.O → Exit
  | .e0 a0 a1 => Exit.exit 2

noncomputable def L55ab.X (n : Nat) (g : Nat → SD) (nb : Nat) (gb : Nat → BD) (m : Int) (s : Int) (a9 : Int) : L55ab.O → List AV
  | .e0 a0 a1 => mkT 50 [(0, (AV.sl 5 n fun (i : Nat) => AV.agg [AV.str (g i).nm, AV.int IntKind.i64 (g i).x, AV.int IntKind.i64 (g i).y, AV.sl 1 (g i).nr fun (i_1 : Nat) => AV.int IntKind.i64 ((g i).r i_1), AV.sl 1 (g i).nl fun (i_1 : Nat) => AV.int IntKind.i64 ((g i).l i_1)])), (1, (AV.sl 7 nb fun (i : Nat) => AV.agg [AV.str (gb i).nm, AV.int IntKind.i64 (gb i).a, AV.int IntKind.i64 (gb i).b, AV.int IntKind.i64 (gb i).c, AV.int IntKind.i64 (gb i).d, AV.int IntKind.i64 (gb i).e, AV.int IntKind.i64 (gb i).f])), (2, (AV.int IntKind.i64 m)), (3, (AV.int IntKind.i64 s)), (9, (AV.int IntKind.i64 a9)), (10, (AV.bool a0)), (11, (AV.bool a1))]

noncomputable def L55ab.XH (n : Nat) (g : Nat → SD) (nb : Nat) (gb : Nat → BD) (m : Int) (s : Int) (a9 : Int) : L55ab.O → AHeap
  | .e0 a0 a1 => ([])

noncomputable def L55ab.N (n : Nat) (g : Nat → SD) (gb : Nat → BD) (m : Int) (s : Int) (a9 : Int) : Nat → Bool → Bool → Int → L55ab.O
  | 0, b10, b11, _ => .e0 b10 b11
  | k_ + 1, b10, b11, b12 => (bif decide (b12 < (↑n : Int)) then (bif r26.v (g b12.toNat) (gb a9.toNat).a (gb a9.toNat).b (gb a9.toNat).c (gb a9.toNat).d (gb a9.toNat).e (gb a9.toNat).f m then (bif b11 then (L55ab.N n g gb m s a9 k_ (true) (true) (IntKind.i64.wrap (b12 + 1))) else (L55ab.N n g gb m s a9 k_ (true) ((s.fdiv (2 ^ min (IntKind.u64.wrap b12).toNat 64)).tmod 2 == 1) (IntKind.i64.wrap (b12 + 1)))) else (L55ab.N n g gb m s a9 k_ (b10) (b11) (IntKind.i64.wrap (b12 + 1)))) else (.e0 (b10) (b11)))

noncomputable def L55ab.run (n : Nat) (g : Nat → SD) (gb : Nat → BD) (m : Int) (s : Int) (a9 : Int) (b10 : Bool) (b11 : Bool) (b12 : Int) : L55ab.O := L55ab.N n g gb m s a9 ((((↑n : Int) - b12).toNat) + 1) b10 b11 b12

theorem L55ab.nx (n : Nat) (g : Nat → SD) (nb : Nat) (gb : Nat → BD) (m : Int) (s : Int) (a9 : Int) {k_ : Nat} {z_ : Bool × Bool × Int} {h_ : AHeap} (s_ : Bool × Bool × Int) (h1 : L55ab.inv n g nb gb m s a9 s_.1 s_.2.1 s_.2.2) (h2 : L55ab.mu n g nb gb m s a9 s_.1 s_.2.1 s_.2.2 < L55ab.mu n g nb gb m s a9 z_.1 z_.2.1 z_.2.2) (h3 : L55ab.N n g gb m s a9 k_ s_.1 s_.2.1 s_.2.2 = L55ab.N n g gb m s a9 (k_ + 1) z_.1 z_.2.1 z_.2.2) (h4 : PopOk (L55ab.H n g nb gb m s a9 z_.1 z_.2.1 z_.2.2) h_ (L55ab.T n g nb gb m s a9 s_.1 s_.2.1 s_.2.2) (L55ab.H n g nb gb m s a9 s_.1 s_.2.1 s_.2.2)) : LNextP (fun (z_ : Bool × Bool × Int) => L55ab.T n g nb gb m s a9 z_.1 z_.2.1 z_.2.2) (fun (z_ : Bool × Bool × Int) => L55ab.H n g nb gb m s a9 z_.1 z_.2.1 z_.2.2) (fun (z_ : Bool × Bool × Int) => L55ab.inv n g nb gb m s a9 z_.1 z_.2.1 z_.2.2) (fun (z_ : Bool × Bool × Int) => L55ab.mu n g nb gb m s a9 z_.1 z_.2.1 z_.2.2) (fun (k_ : Nat) (z_ : Bool × Bool × Int) => L55ab.N n g gb m s a9 k_ z_.1 z_.2.1 z_.2.2) k_ z_ (L55ab.T n g nb gb m s a9 s_.1 s_.2.1 s_.2.2) h_ := LNextP.mk (Tm := (fun (z_ : Bool × Bool × Int) => L55ab.T n g nb gb m s a9 z_.1 z_.2.1 z_.2.2)) (Hp := (fun (z_ : Bool × Bool × Int) => L55ab.H n g nb gb m s a9 z_.1 z_.2.1 z_.2.2)) (inv := (fun (z_ : Bool × Bool × Int) => L55ab.inv n g nb gb m s a9 z_.1 z_.2.1 z_.2.2)) (mu := (fun (z_ : Bool × Bool × Int) => L55ab.mu n g nb gb m s a9 z_.1 z_.2.1 z_.2.2)) (l := (fun (k_ : Nat) (z_ : Bool × Bool × Int) => L55ab.N n g gb m s a9 k_ z_.1 z_.2.1 z_.2.2)) s_ h1 h2 h3 h4

theorem L55ab.en (n : Nat) (g : Nat → SD) (nb : Nat) (gb : Nat → BD) (m : Int) (s : Int) (a9 : Int) {k_ : Nat} {z_ : Bool × Bool × Int} {h_ : AHeap} (o_ : L55ab.O) (h3 : L55ab.N n g gb m s a9 (k_ + 1) z_.1 z_.2.1 z_.2.2 = o_) (h4 : PopOk (L55ab.H n g nb gb m s a9 z_.1 z_.2.1 z_.2.2) h_ (L55ab.X n g nb gb m s a9 o_) (L55ab.XH n g nb gb m s a9 o_)) : LEndP (fun (z_ : Bool × Bool × Int) => L55ab.H n g nb gb m s a9 z_.1 z_.2.1 z_.2.2) (fun (k_ : Nat) (z_ : Bool × Bool × Int) => L55ab.N n g gb m s a9 k_ z_.1 z_.2.1 z_.2.2) L55ab.E (L55ab.X n g nb gb m s a9) (L55ab.XH n g nb gb m s a9) k_ z_ (L55ab.E o_) (L55ab.X n g nb gb m s a9 o_) h_ := LEndP.mk (Hp := (fun (z_ : Bool × Bool × Int) => L55ab.H n g nb gb m s a9 z_.1 z_.2.1 z_.2.2)) (l := (fun (k_ : Nat) (z_ : Bool × Bool × Int) => L55ab.N n g gb m s a9 k_ z_.1 z_.2.1 z_.2.2)) (oE := L55ab.E) (oT := L55ab.X n g nb gb m s a9) (oH := L55ab.XH n g nb gb m s a9) o_ h3 h4

theorem L55ab.spec (n : Nat) (g : Nat → SD) (hn : (↑n : Int) ≤ 64) (hg : ∀ (i : Nat), i < n → (g i).nl = (g i).nr) (nb : Nat) (gb : Nat → BD) (hnb : nb ≤ 256) (m : Int) (s : Int) (a9 : Int) (i55a_0 : 0 ≤ a9) (i55a_1 : a9 ≤ (↑nb : Int) ∨ a9 ≤ 0) (k1_1 : decide (a9 < (↑nb : Int)) = true) (p1_1 : a9 < (↑nb : Int)) (k_ : Nat) (z_ : Bool × Bool × Int) (hi_ : L55ab.inv n g nb gb m s a9 z_.1 z_.2.1 z_.2.2) (hm_ : L55ab.mu n g nb gb m s a9 z_.1 z_.2.1 z_.2.2 < k_) : LoopTo Try.prog (loopN Try.f55 1) (L55ab.T n g nb gb m s a9 z_.1 z_.2.1 z_.2.2) (L55ab.H n g nb gb m s a9 z_.1 z_.2.1 z_.2.2) (L55ab.E (L55ab.N n g gb m s a9 k_ z_.1 z_.2.1 z_.2.2)) (L55ab.X n g nb gb m s a9 (L55ab.N n g gb m s a9 k_ z_.1 z_.2.1 z_.2.2)) (L55ab.XH n g nb gb m s a9 (L55ab.N n g gb m s a9 k_ z_.1 z_.2.1 z_.2.2)) := by
  refine LoopTo.fuelP mix (fun (z_ : Bool × Bool × Int) => L55ab.T n g nb gb m s a9 z_.1 z_.2.1 z_.2.2) (fun (z_ : Bool × Bool × Int) => L55ab.H n g nb gb m s a9 z_.1 z_.2.1 z_.2.2) (fun (z_ : Bool × Bool × Int) => L55ab.inv n g nb gb m s a9 z_.1 z_.2.1 z_.2.2) (fun (z_ : Bool × Bool × Int) => L55ab.mu n g nb gb m s a9 z_.1 z_.2.1 z_.2.2) (fun (k_ : Nat) (z_ : Bool × Bool × Int) => L55ab.N n g gb m s a9 k_ z_.1 z_.2.1 z_.2.2) L55ab.E (L55ab.X n g nb gb m s a9) (L55ab.XH n g nb gb m s a9) (others 50 [0, 1, 2, 3, 9, 10, 11, 12]) (others 50 [8]) (others 50 [0, 1, 2, 3, 9, 10, 11]) ?_ k_ z_ hi_ hm_
  clear hm_ hi_ z_ k_
  intro k_ z_ hinv hmu
  obtain ⟨b10, b11, b12⟩ := z_
  have hinv : 0 ≤ b12 ∧ (b12 ≤ (↑n : Int) ∨ b12 ≤ 0) := hinv
  have hmu : (((↑n : Int) - b12).toNat) < k_ + 1 := hmu
  cases h1 : decide (b12 < (↑n : Int)) with
  | true =>
    have h1p := of_decide_eq_true h1
    have o0 : (0 : Int) ≤ b12 := by first | assumption | omega | (exact hg _) | (exact hg _ (by omega)) | (simp_all; done)
    have o1 : b12 < (↑n : Int) := by first | assumption | omega | (exact hg _) | (exact hg _ (by omega)) | (simp_all; done)
    have o2 : (0 : Int) ≤ a9 := by first | assumption | omega | (exact hg _) | (exact hg _ (by omega)) | (simp_all; done)
    have o3 : a9 < (↑nb : Int) := by first | assumption | omega | (exact hg _) | (exact hg _ (by omega)) | (simp_all; done)
    have o4 : (g b12.toNat).nl = (g b12.toNat).nr := by first | assumption | omega | (apply hg46 <;> first | assumption | omega) | (exact hg _) | (exact hg _ (by omega)) | (simp_all; done)
    cases h2 : r26.v (g b12.toNat) (gb a9.toNat).a (gb a9.toNat).b (gb a9.toNat).c (gb a9.toNat).d (gb a9.toNat).e (gb a9.toNat).f m with
    | true =>
      cases boolIs b11 with
      | true h3 =>
        try have := IntWalk.i64_in (b12 + 1) (by omega)
        have o5 : (0 : Int) ≤ IntKind.i64.wrap (b12 + (1 : Int)) := by first | assumption | omega | (exact hg _) | (exact hg _ (by omega)) | (simp_all; done)
        have o6 : IntKind.i64.wrap (b12 + (1 : Int)) ≤ (↑n : Int) ∨ IntKind.i64.wrap (b12 + (1 : Int)) ≤ (0 : Int) := by first | assumption | omega | (exact hg _) | (exact hg _ (by omega)) | (simp_all; done)
        have o7 : ((↑n : Int) - IntKind.i64.wrap (b12 + (1 : Int))).toNat < ((↑n : Int) - b12).toNat := by first | assumption | omega | (exact hg _) | (exact hg _ (by omega)) | (simp_all; done)
        exact ⟨[.b true, .ret (AV.bool (r26.v (g b12.toNat) (gb a9.toNat).a (gb a9.toNat).b (gb a9.toNat).c (gb a9.toNat).d (gb a9.toNat).e (gb a9.toNat).f m)) ([]), .b true, .b true, .b true, .b true, .b true, .b true, .b true, .b true], kmp (by kernel_rfl) (And.intro h1 (And.intro (And.intro o0 o1) (And.intro (And.intro o2 o3) (And.intro (r26 (g b12.toNat) ((gb a9.toNat).a) ((gb a9.toNat).b) ((gb a9.toNat).c) ((gb a9.toNat).d) ((gb a9.toNat).e) ((gb a9.toNat).f) (m) o4 ([])) (And.intro h2 (And.intro h3 (And.intro h3 (And.intro h3 (And.intro h3 (And.intro h3 (And.intro h3 (And.intro h3 (L55ab.nx n g nb gb m s a9 (k_ := k_) (z_ := (b10, b11, b12)) ((true, true, IntKind.i64.wrap (b12 + 1))) (And.intro o5 o6) o7 (by first | (simp only [L55ab.N, h1, h2, h3, cond_true, cond_false]; done) | (try unfold L55ab.N; try simp only [h1, cond_true, cond_false]; try simp only [h2, cond_true, cond_false]; try simp only [h3, cond_true, cond_false]; try rfl; done)) PopOk.same)))))))))))))⟩
      | false h3 =>
        try have := IntWalk.u64_in (b12) (by omega)
        have o8 : (0 : Int) ≤ IntKind.u64.wrap b12 := by first | assumption | omega | (exact hg _) | (exact hg _ (by omega)) | (simp_all; done)
        try have := IntWalk.i64_in (b12 + 1) (by omega)
        have o5 : (0 : Int) ≤ IntKind.i64.wrap (b12 + (1 : Int)) := by first | assumption | omega | (exact hg _) | (exact hg _ (by omega)) | (simp_all; done)
        have o6 : IntKind.i64.wrap (b12 + (1 : Int)) ≤ (↑n : Int) ∨ IntKind.i64.wrap (b12 + (1 : Int)) ≤ (0 : Int) := by first | assumption | omega | (exact hg _) | (exact hg _ (by omega)) | (simp_all; done)
        have o7 : ((↑n : Int) - IntKind.i64.wrap (b12 + (1 : Int))).toNat < ((↑n : Int) - b12).toNat := by first | assumption | omega | (exact hg _) | (exact hg _ (by omega)) | (simp_all; done)
        exact ⟨[.b true, .ret (AV.bool (r26.v (g b12.toNat) (gb a9.toNat).a (gb a9.toNat).b (gb a9.toNat).c (gb a9.toNat).d (gb a9.toNat).e (gb a9.toNat).f m)) ([]), .b true, .b false, .b false, .b false, .b false, .b false, .b false, .b false], kmp (by kernel_rfl) (And.intro h1 (And.intro (And.intro o0 o1) (And.intro (And.intro o2 o3) (And.intro (r26 (g b12.toNat) ((gb a9.toNat).a) ((gb a9.toNat).b) ((gb a9.toNat).c) ((gb a9.toNat).d) ((gb a9.toNat).e) ((gb a9.toNat).f) (m) o4 ([])) (And.intro h2 (And.intro h3 (And.intro h3 (And.intro h3 (And.intro h3 (And.intro o8 (And.intro h3 (And.intro (show (2 : Int) = (0 : Int) → False by first | decide | exact Int.NonNeg.mk _) (And.intro h3 (And.intro h3 (L55ab.nx n g nb gb m s a9 (k_ := k_) (z_ := (b10, b11, b12)) ((true, (s.fdiv (2 ^ min (IntKind.u64.wrap b12).toNat 64)).tmod 2 == 1, IntKind.i64.wrap (b12 + 1))) (And.intro o5 o6) o7 (by first | (simp only [L55ab.N, h1, h2, h3, cond_true, cond_false]; done) | (try unfold L55ab.N; try simp only [h1, cond_true, cond_false]; try simp only [h2, cond_true, cond_false]; try simp only [h3, cond_true, cond_false]; try rfl; done)) PopOk.same)))))))))))))))⟩
    | false =>
      try have := IntWalk.i64_in (b12 + 1) (by omega)
      have o5 : (0 : Int) ≤ IntKind.i64.wrap (b12 + (1 : Int)) := by first | assumption | omega | (exact hg _) | (exact hg _ (by omega)) | (simp_all; done)
      have o6 : IntKind.i64.wrap (b12 + (1 : Int)) ≤ (↑n : Int) ∨ IntKind.i64.wrap (b12 + (1 : Int)) ≤ (0 : Int) := by first | assumption | omega | (exact hg _) | (exact hg _ (by omega)) | (simp_all; done)
      have o7 : ((↑n : Int) - IntKind.i64.wrap (b12 + (1 : Int))).toNat < ((↑n : Int) - b12).toNat := by first | assumption | omega | (exact hg _) | (exact hg _ (by omega)) | (simp_all; done)
      exact ⟨[.b true, .ret (AV.bool (r26.v (g b12.toNat) (gb a9.toNat).a (gb a9.toNat).b (gb a9.toNat).c (gb a9.toNat).d (gb a9.toNat).e (gb a9.toNat).f m)) ([]), .b false], kmp (by kernel_rfl) (And.intro h1 (And.intro (And.intro o0 o1) (And.intro (And.intro o2 o3) (And.intro (r26 (g b12.toNat) ((gb a9.toNat).a) ((gb a9.toNat).b) ((gb a9.toNat).c) ((gb a9.toNat).d) ((gb a9.toNat).e) ((gb a9.toNat).f) (m) o4 ([])) (And.intro h2 (L55ab.nx n g nb gb m s a9 (k_ := k_) (z_ := (b10, b11, b12)) ((b10, b11, IntKind.i64.wrap (b12 + 1))) (And.intro o5 o6) o7 (by first | (simp only [L55ab.N, h1, h2, cond_true, cond_false]; done) | (try unfold L55ab.N; try simp only [h1, cond_true, cond_false]; try simp only [h2, cond_true, cond_false]; try rfl; done)) PopOk.same))))))⟩
  | false =>
    have h1p := of_decide_eq_false h1
    exact ⟨[.b false], kmp (by kernel_rfl) (And.intro h1 (L55ab.en n g nb gb m s a9 (k_ := k_) (z_ := (b10, b11, b12)) (.e0 (b10) (b11) : L55ab.O) (by first | (simp only [L55ab.N, h1, cond_true, cond_false]; done) | (try unfold L55ab.N; try simp only [h1, cond_true, cond_false]; try rfl; done)) PopOk.same))⟩

theorem L55ab.e0 (n : Nat) (g : Nat → SD) (hn : (↑n : Int) ≤ 64) (hg : ∀ (i : Nat), i < n → (g i).nl = (g i).nr) (nb : Nat) (gb : Nat → BD) (hnb : nb ≤ 256) (m : Int) (s : Int) (a9 : Int) (i55a_0 : 0 ≤ a9) (i55a_1 : a9 ≤ (↑nb : Int) ∨ a9 ≤ 0) (k1_1 : decide (a9 < (↑nb : Int)) = true) (p1_1 : a9 < (↑nb : Int)) (b10 : Bool) (b11 : Bool) (b12 : Int) (hinv : L55ab.inv n g nb gb m s a9 b10 b11 b12) (a0 : Bool) (a1 : Bool) (hN : L55ab.run n g gb m s a9 b10 b11 b12 = (.e0 a0 a1 : L55ab.O)) : LoopTo Try.prog (loopN Try.f55 1) (L55ab.T n g nb gb m s a9 b10 b11 b12) (L55ab.H n g nb gb m s a9 b10 b11 b12) (Exit.exit 2) (L55ab.X n g nb gb m s a9 (.e0 a0 a1 : L55ab.O)) (L55ab.XH n g nb gb m s a9 (.e0 a0 a1 : L55ab.O)) := by
  have h_ := L55ab.spec n g hn hg nb gb hnb m s a9 i55a_0 i55a_1 k1_1 p1_1 ((((↑n : Int) - b12).toNat) + 1) (b10, b11, b12) hinv (Nat.lt_succ_self _)
  unfold L55ab.run at hN
  simp only [hN] at h_
  exact h_

inductive L55a.O where
  | e0
  | e1

noncomputable def L55a.T (n : Nat) (g : Nat → SD) (nb : Nat) (gb : Nat → BD) (m : Int) (s : Int) (a9 : Int) : List AV := mkT 50 [(0, AV.sl 5 n fun (i : Nat) => AV.agg [AV.str (g i).nm, AV.int IntKind.i64 (g i).x, AV.int IntKind.i64 (g i).y, AV.sl 1 (g i).nr fun (i_1 : Nat) => AV.int IntKind.i64 ((g i).r i_1), AV.sl 1 (g i).nl fun (i_1 : Nat) => AV.int IntKind.i64 ((g i).l i_1)]), (1, AV.sl 7 nb fun (i : Nat) => AV.agg [AV.str (gb i).nm, AV.int IntKind.i64 (gb i).a, AV.int IntKind.i64 (gb i).b, AV.int IntKind.i64 (gb i).c, AV.int IntKind.i64 (gb i).d, AV.int IntKind.i64 (gb i).e, AV.int IntKind.i64 (gb i).f]), (2, AV.int IntKind.i64 m), (3, AV.int IntKind.i64 s), (9, AV.int IntKind.i64 a9)]

noncomputable def L55a.H (n : Nat) (g : Nat → SD) (nb : Nat) (gb : Nat → BD) (m : Int) (s : Int) (a9 : Int) : AHeap := []

def L55a.inv (n : Nat) (g : Nat → SD) (nb : Nat) (gb : Nat → BD) (m : Int) (s : Int) (a9 : Int) : Prop := 0 ≤ a9 ∧ (a9 ≤ (↑nb : Int) ∨ a9 ≤ 0)

noncomputable def L55a.mu (n : Nat) (g : Nat → SD) (nb : Nat) (gb : Nat → BD) (m : Int) (s : Int) (a9 : Int) : Nat := ((↑nb : Int) - a9).toNat

noncomputable def L55a.E : L55a.O → Exit
  | .e0 => Exit.ret
  | .e1 => Exit.exit 0

noncomputable def L55a.X (n : Nat) (g : Nat → SD) (nb : Nat) (gb : Nat → BD) (m : Int) (s : Int) : L55a.O → List AV
  | .e0 => mkT 50 [(8, (AV.bool false))]
  | .e1 => mkT 50 []

noncomputable def L55a.XH (n : Nat) (g : Nat → SD) (nb : Nat) (gb : Nat → BD) (m : Int) (s : Int) : L55a.O → AHeap
  | .e0 => ([])
  | .e1 => ([])

noncomputable def L55a.N (n : Nat) (g : Nat → SD) (nb : Nat) (gb : Nat → BD) (m : Int) (s : Int) : Nat → Int → L55a.O
  | 0, _ => .e0
  | k_ + 1, a9 => (bif decide (a9 < (↑nb : Int)) then (match L55ab.run n g gb m s a9 false false 0 with | .e0 h2d0 h2d1 => (bif h2d0 then (bif h2d1 then (L55a.N n g nb gb m s k_ (IntKind.i64.wrap (a9 + 1))) else (.e0)) else (L55a.N n g nb gb m s k_ (IntKind.i64.wrap (a9 + 1)))) ) else (.e1))

noncomputable def L55a.run (n : Nat) (g : Nat → SD) (nb : Nat) (gb : Nat → BD) (m : Int) (s : Int) (a9 : Int) : L55a.O := L55a.N n g nb gb m s ((((↑nb : Int) - a9).toNat) + 1) a9

theorem L55a.nx (n : Nat) (g : Nat → SD) (nb : Nat) (gb : Nat → BD) (m : Int) (s : Int) {k_ : Nat} {z_ : Int} {h_ : AHeap} (s_ : Int) (h1 : L55a.inv n g nb gb m s s_) (h2 : L55a.mu n g nb gb m s s_ < L55a.mu n g nb gb m s z_) (h3 : L55a.N n g nb gb m s k_ s_ = L55a.N n g nb gb m s (k_ + 1) z_) (h4 : PopOk (L55a.H n g nb gb m s z_) h_ (L55a.T n g nb gb m s s_) (L55a.H n g nb gb m s s_)) : LNextP (fun (z_ : Int) => L55a.T n g nb gb m s z_) (fun (z_ : Int) => L55a.H n g nb gb m s z_) (fun (z_ : Int) => L55a.inv n g nb gb m s z_) (fun (z_ : Int) => L55a.mu n g nb gb m s z_) (fun (k_ : Nat) (z_ : Int) => L55a.N n g nb gb m s k_ z_) k_ z_ (L55a.T n g nb gb m s s_) h_ := LNextP.mk (Tm := (fun (z_ : Int) => L55a.T n g nb gb m s z_)) (Hp := (fun (z_ : Int) => L55a.H n g nb gb m s z_)) (inv := (fun (z_ : Int) => L55a.inv n g nb gb m s z_)) (mu := (fun (z_ : Int) => L55a.mu n g nb gb m s z_)) (l := (fun (k_ : Nat) (z_ : Int) => L55a.N n g nb gb m s k_ z_)) s_ h1 h2 h3 h4

theorem L55a.en (n : Nat) (g : Nat → SD) (nb : Nat) (gb : Nat → BD) (m : Int) (s : Int) {k_ : Nat} {z_ : Int} {h_ : AHeap} (o_ : L55a.O) (h3 : L55a.N n g nb gb m s (k_ + 1) z_ = o_) (h4 : PopOk (L55a.H n g nb gb m s z_) h_ (L55a.X n g nb gb m s o_) (L55a.XH n g nb gb m s o_)) : LEndP (fun (z_ : Int) => L55a.H n g nb gb m s z_) (fun (k_ : Nat) (z_ : Int) => L55a.N n g nb gb m s k_ z_) L55a.E (L55a.X n g nb gb m s) (L55a.XH n g nb gb m s) k_ z_ (L55a.E o_) (L55a.X n g nb gb m s o_) h_ := LEndP.mk (Hp := (fun (z_ : Int) => L55a.H n g nb gb m s z_)) (l := (fun (k_ : Nat) (z_ : Int) => L55a.N n g nb gb m s k_ z_)) (oE := L55a.E) (oT := L55a.X n g nb gb m s) (oH := L55a.XH n g nb gb m s) o_ h3 h4

theorem L55a.spec (n : Nat) (g : Nat → SD) (hn : (↑n : Int) ≤ 64) (hg : ∀ (i : Nat), i < n → (g i).nl = (g i).nr) (nb : Nat) (gb : Nat → BD) (hnb : nb ≤ 256) (m : Int) (s : Int) (k_ : Nat) (z_ : Int) (hi_ : L55a.inv n g nb gb m s z_) (hm_ : L55a.mu n g nb gb m s z_ < k_) : LoopTo Try.prog (loopN Try.f55 0) (L55a.T n g nb gb m s z_) (L55a.H n g nb gb m s z_) (L55a.E (L55a.N n g nb gb m s k_ z_)) (L55a.X n g nb gb m s (L55a.N n g nb gb m s k_ z_)) (L55a.XH n g nb gb m s (L55a.N n g nb gb m s k_ z_)) := by
  refine LoopTo.fuelP mix (fun (z_ : Int) => L55a.T n g nb gb m s z_) (fun (z_ : Int) => L55a.H n g nb gb m s z_) (fun (z_ : Int) => L55a.inv n g nb gb m s z_) (fun (z_ : Int) => L55a.mu n g nb gb m s z_) (fun (k_ : Nat) (z_ : Int) => L55a.N n g nb gb m s k_ z_) L55a.E (L55a.X n g nb gb m s) (L55a.XH n g nb gb m s) (others 50 [0, 1, 2, 3, 9]) (others 50 [8]) (others 50 []) ?_ k_ z_ hi_ hm_
  clear hm_ hi_ z_ k_
  intro k_ z_ hinv hmu
  revert hinv hmu; revert z_; intro a9 hinv hmu
  have hinv : 0 ≤ a9 ∧ (a9 ≤ (↑nb : Int) ∨ a9 ≤ 0) := hinv
  have hmu : (((↑nb : Int) - a9).toNat) < k_ + 1 := hmu
  cases h1 : decide (a9 < (↑nb : Int)) with
  | true =>
    have h1p := of_decide_eq_true h1
    have o0 : (↑n : Int) ≤ (64 : Int) := by first | assumption | omega | (exact hg _) | (exact hg _ (by omega)) | (simp_all; done)
    have o1 : ∀ (i : Nat), i < n → (g i).nl = (g i).nr := by first | assumption | omega | (apply hg46 <;> first | assumption | omega) | (exact hg _) | (exact hg _ (by omega)) | (simp_all; done)
    have o2 : nb ≤ (256 : Nat) := by first | assumption | omega | (exact hg _) | (exact hg _ (by omega)) | (simp_all; done)
    have o3 : (0 : Int) ≤ a9 := by first | assumption | omega | (exact hg _) | (exact hg _ (by omega)) | (simp_all; done)
    have o4 : a9 ≤ (↑nb : Int) ∨ a9 ≤ (0 : Int) := by first | assumption | omega | (exact hg _) | (exact hg _ (by omega)) | (simp_all; done)
    have o5 : decide (a9 < (↑nb : Int)) = true := by first | assumption | omega | (exact hg _) | (exact hg _ (by omega)) | (simp_all; done)
    have o6 : a9 < (↑nb : Int) := by first | assumption | omega | (exact hg _) | (exact hg _ (by omega)) | (simp_all; done)
    have o7 : (0 : Int) ≤ (↑n : Int) ∨ (0 : Int) ≤ (0 : Int) := by first | assumption | omega | (exact hg _) | (exact hg _ (by omega)) | (simp_all; done)
    cases h2 : L55ab.run n g gb m s a9 false false 0 with
    | e0 h2d0 h2d1 =>
      cases boolIs h2d0 with
      | true h3 =>
        cases boolIs h2d1 with
        | true h4 =>
          try have := IntWalk.i64_in (a9 + 1) (by omega)
          have o8 : (0 : Int) ≤ IntKind.i64.wrap (a9 + (1 : Int)) := by first | assumption | omega | (exact hg _) | (exact hg _ (by omega)) | (simp_all; done)
          have o9 : IntKind.i64.wrap (a9 + (1 : Int)) ≤ (↑nb : Int) ∨ IntKind.i64.wrap (a9 + (1 : Int)) ≤ (0 : Int) := by first | assumption | omega | (exact hg _) | (exact hg _ (by omega)) | (simp_all; done)
          have o10 : ((↑nb : Int) - IntKind.i64.wrap (a9 + (1 : Int))).toNat < ((↑nb : Int) - a9).toNat := by first | assumption | omega | (exact hg _) | (exact hg _ (by omega)) | (simp_all; done)
          exact ⟨[.b true, .loop (others 50 [0, 1, 2, 3, 9, 10, 11, 12]) (Exit.exit 2) (L55ab.X n g nb gb m s a9 (L55ab.O.e0 h2d0 h2d1)) (L55ab.XH n g nb gb m s a9 (L55ab.O.e0 h2d0 h2d1)), .b true, .b true, .b true, .b false], kmp (by kernel_rfl) (And.intro h1 (And.intro (L55ab.e0 (n) (g) o0 o1 (nb) (gb) o2 (m) (s) (a9) o3 o4 o5 o6 (false) (false) (0) (And.intro (show (0 : Int) ≤ (0 : Int) by first | decide | exact Int.NonNeg.mk _) o7) h2d0 h2d1 h2) (And.intro h3 (And.intro h3 (And.intro h3 (And.intro (show (bnot h2d1) = false by rw [h4]; try rfl) (L55a.nx n g nb gb m s (k_ := k_) (z_ := a9) (IntKind.i64.wrap (a9 + 1)) (And.intro o8 o9) o10 (by first | (simp only [L55a.N, h1, h3, h4, h2, cond_true, cond_false]; done) | (try unfold L55a.N; try simp only [h1, cond_true, cond_false]; try simp only [h3, cond_true, cond_false]; try simp only [h4, cond_true, cond_false]; try simp only [h2, cond_true, cond_false]; try rfl; done)) PopOk.same)))))))⟩
        | false h4 =>
          exact ⟨[.b true, .loop (others 50 [0, 1, 2, 3, 9, 10, 11, 12]) (Exit.exit 2) (L55ab.X n g nb gb m s a9 (L55ab.O.e0 h2d0 h2d1)) (L55ab.XH n g nb gb m s a9 (L55ab.O.e0 h2d0 h2d1)), .b true, .b true, .b true, .b true], kmp (by kernel_rfl) (And.intro h1 (And.intro (L55ab.e0 (n) (g) o0 o1 (nb) (gb) o2 (m) (s) (a9) o3 o4 o5 o6 (false) (false) (0) (And.intro (show (0 : Int) ≤ (0 : Int) by first | decide | exact Int.NonNeg.mk _) o7) h2d0 h2d1 h2) (And.intro h3 (And.intro h3 (And.intro h3 (And.intro (show (bnot h2d1) = true by rw [h4]; try rfl) (L55a.en n g nb gb m s (k_ := k_) (z_ := a9) (.e0 : L55a.O) (by first | (simp only [L55a.N, h1, h3, h4, h2, cond_true, cond_false]; done) | (try unfold L55a.N; try simp only [h1, cond_true, cond_false]; try simp only [h3, cond_true, cond_false]; try simp only [h4, cond_true, cond_false]; try simp only [h2, cond_true, cond_false]; try rfl; done)) PopOk.same)))))))⟩
      | false h3 =>
        try have := IntWalk.i64_in (a9 + 1) (by omega)
        have o8 : (0 : Int) ≤ IntKind.i64.wrap (a9 + (1 : Int)) := by first | assumption | omega | (exact hg _) | (exact hg _ (by omega)) | (simp_all; done)
        have o9 : IntKind.i64.wrap (a9 + (1 : Int)) ≤ (↑nb : Int) ∨ IntKind.i64.wrap (a9 + (1 : Int)) ≤ (0 : Int) := by first | assumption | omega | (exact hg _) | (exact hg _ (by omega)) | (simp_all; done)
        have o10 : ((↑nb : Int) - IntKind.i64.wrap (a9 + (1 : Int))).toNat < ((↑nb : Int) - a9).toNat := by first | assumption | omega | (exact hg _) | (exact hg _ (by omega)) | (simp_all; done)
        exact ⟨[.b true, .loop (others 50 [0, 1, 2, 3, 9, 10, 11, 12]) (Exit.exit 2) (L55ab.X n g nb gb m s a9 (L55ab.O.e0 h2d0 h2d1)) (L55ab.XH n g nb gb m s a9 (L55ab.O.e0 h2d0 h2d1)), .b false, .b false, .b false, .b false], kmp (by kernel_rfl) (And.intro h1 (And.intro (L55ab.e0 (n) (g) o0 o1 (nb) (gb) o2 (m) (s) (a9) o3 o4 o5 o6 (false) (false) (0) (And.intro (show (0 : Int) ≤ (0 : Int) by first | decide | exact Int.NonNeg.mk _) o7) h2d0 h2d1 h2) (And.intro h3 (And.intro h3 (And.intro h3 (And.intro (rfl : false = false) (L55a.nx n g nb gb m s (k_ := k_) (z_ := a9) (IntKind.i64.wrap (a9 + 1)) (And.intro o8 o9) o10 (by first | (simp only [L55a.N, h1, h3, h2, cond_true, cond_false]; done) | (try unfold L55a.N; try simp only [h1, cond_true, cond_false]; try simp only [h3, cond_true, cond_false]; try simp only [h2, cond_true, cond_false]; try rfl; done)) PopOk.same)))))))⟩
  | false =>
    have h1p := of_decide_eq_false h1
    exact ⟨[.b false], kmp (by kernel_rfl) (And.intro h1 (L55a.en n g nb gb m s (k_ := k_) (z_ := a9) (.e1 : L55a.O) (by first | (simp only [L55a.N, h1, cond_true, cond_false]; done) | (try unfold L55a.N; try simp only [h1, cond_true, cond_false]; try rfl; done)) PopOk.same))⟩

theorem L55a.e0 (n : Nat) (g : Nat → SD) (hn : (↑n : Int) ≤ 64) (hg : ∀ (i : Nat), i < n → (g i).nl = (g i).nr) (nb : Nat) (gb : Nat → BD) (hnb : nb ≤ 256) (m : Int) (s : Int) (a9 : Int) (hinv : L55a.inv n g nb gb m s a9) (hN : L55a.run n g nb gb m s a9 = (.e0 : L55a.O)) : LoopTo Try.prog (loopN Try.f55 0) (L55a.T n g nb gb m s a9) (L55a.H n g nb gb m s a9) (Exit.ret) (L55a.X n g nb gb m s (.e0 : L55a.O)) (L55a.XH n g nb gb m s (.e0 : L55a.O)) := by
  have h_ := L55a.spec n g hn hg nb gb hnb m s ((((↑nb : Int) - a9).toNat) + 1) a9 hinv (Nat.lt_succ_self _)
  unfold L55a.run at hN
  simp only [hN] at h_
  exact h_

theorem L55a.e1 (n : Nat) (g : Nat → SD) (hn : (↑n : Int) ≤ 64) (hg : ∀ (i : Nat), i < n → (g i).nl = (g i).nr) (nb : Nat) (gb : Nat → BD) (hnb : nb ≤ 256) (m : Int) (s : Int) (a9 : Int) (hinv : L55a.inv n g nb gb m s a9) (hN : L55a.run n g nb gb m s a9 = (.e1 : L55a.O)) : LoopTo Try.prog (loopN Try.f55 0) (L55a.T n g nb gb m s a9) (L55a.H n g nb gb m s a9) (Exit.exit 0) (L55a.X n g nb gb m s (.e1 : L55a.O)) (L55a.XH n g nb gb m s (.e1 : L55a.O)) := by
  have h_ := L55a.spec n g hn hg nb gb hnb m s ((((↑nb : Int) - a9).toNat) + 1) a9 hinv (Nat.lt_succ_self _)
  unfold L55a.run at hN
  simp only [hN] at h_
  exact h_

noncomputable def r55.v (n : Nat) (g : Nat → SD) (nb : Nat) (gb : Nat → BD) (m : Int) (s : Int) : Bool := (match L55a.run n g nb gb m s 0 with | .e0 => false | .e1 => true )

theorem r55 (n : Nat) (g : Nat → SD) (hn : (↑n : Int) ≤ 64) (hg : ∀ (i : Nat), i < n → (g i).nl = (g i).nr) (nb : Nat) (gb : Nat → BD) (hnb : nb ≤ 256) (m : Int) (s : Int) (h : AHeap) : Ret Try.prog 55 ([sts n g, blks nb gb, AV.int IntKind.i64 m, AV.int IntKind.i64 s]) h (AV.bool (r55.v n g nb gb m s)) h := by
  have o0 : (↑n : Int) ≤ (64 : Int) := by first | assumption | omega | (exact hg _) | (exact hg _ (by omega)) | (simp_all; done)
  have o1 : ∀ (i : Nat), i < n → (g i).nl = (g i).nr := by first | assumption | omega | (apply hg46 <;> first | assumption | omega) | (exact hg _) | (exact hg _ (by omega)) | (simp_all; done)
  have o2 : nb ≤ (256 : Nat) := by first | assumption | omega | (exact hg _) | (exact hg _ (by omega)) | (simp_all; done)
  have o3 : (0 : Int) ≤ (↑nb : Int) ∨ (0 : Int) ≤ (0 : Int) := by first | assumption | omega | (exact hg _) | (exact hg _ (by omega)) | (simp_all; done)
  cases h1 : L55a.run n g nb gb m s 0 with
  | e0 =>
    exact Ret.of_run1 mix [(AV.bool (r55.v n g nb gb m s))] Try.func55 rfl [.loop (others 50 [0, 1, 2, 3, 9]) (Exit.ret) (L55a.X n g nb gb m s L55a.O.e0) (L55a.XH n g nb gb m s L55a.O.e0)] (by simp) (by simp) (kmp (by kernel_rfl) (And.intro (L55a.e0 (n) (g) o0 o1 (nb) (gb) o2 (m) (s) (0) (And.intro (show (0 : Int) ≤ (0 : Int) by first | decide | exact Int.NonNeg.mk _) o3) h1) (And.intro (show (AV.bool false) = ((AV.bool (r55.v n g nb gb m s))) by first | (simp only [r55.v, h1, cond_true, cond_false]; done) | (try unfold r55.v; try simp only [h1, cond_true, cond_false]; try rfl; done) | rfl) trivial))) h
  | e1 =>
    exact Ret.of_run1 mix [(AV.bool (r55.v n g nb gb m s))] Try.func55 rfl [.loop (others 50 [0, 1, 2, 3, 9]) (Exit.exit 0) (L55a.X n g nb gb m s L55a.O.e1) (L55a.XH n g nb gb m s L55a.O.e1)] (by simp) (by simp) (kmp (by kernel_rfl) (And.intro (L55a.e1 (n) (g) o0 o1 (nb) (gb) o2 (m) (s) (0) (And.intro (show (0 : Int) ≤ (0 : Int) by first | decide | exact Int.NonNeg.mk _) o3) h1) (And.intro (show (AV.bool true) = ((AV.bool (r55.v n g nb gb m s))) by first | (simp only [r55.v, h1, cond_true, cond_false]; done) | (try unfold r55.v; try simp only [h1, cond_true, cond_false]; try rfl; done) | rfl) trivial))) h

end Go.Proofs.Ytgmppoappaolkaa

open Go

namespace Go.Proofs.Ytgmppoappaolkaa

set_option linter.unusedSimpArgs false

set_option linter.unusedVariables false

set_option maxHeartbeats 0

set_option maxRecDepth 100000

theorem bd_half {s : Int} (h : s > 0) (h1 : s ≤ 100) : 0 ≤ IntKind.i64.wrap (s.tdiv 2) ∧ IntKind.i64.wrap (s.tdiv 2) < s := by
  have e : s.tdiv 2 = s / 2 := Int.tdiv_eq_ediv_of_nonneg (by omega)
  rw [e, IntWalk.i64_in _ (by omega)]
  omega

inductive L53a.O where
  | e0 (a0 : Nat) (a1 : List Int)

noncomputable def L53a.T (s : Int) (i : Int) (rv : Nat) (rl : List Int) : List AV := mkT 20 [(0, AV.int IntKind.i64 s), (3, AV.ms 0 rv 1 0 rl.length), (4, AV.int IntKind.i64 i)]

noncomputable def L53a.H (s : Int) (i : Int) (rv : Nat) (rl : List Int) : AHeap := [AObj.row 1 rv (Col.ints IntKind.i64 rl)]

def L53a.inv (s : Int) (i : Int) (rv : Nat) (rl : List Int) : Prop := (0 ≤ s ∧ s ≤ 100) ∧ (0 ≤ i ∧ i + s ≤ 100) ∧ (↑rl.length : Int) ≤ i

noncomputable def L53a.mu (s : Int) (i : Int) (rv : Nat) (rl : List Int) : Nat := s.toNat

noncomputable def L53a.E : L53a.O → Exit
  | .e0 a0 a1 => Exit.exit 0

noncomputable def L53a.X : L53a.O → List AV
  | .e0 a0 a1 => mkT 20 [(3, (AV.ms 0 a0 1 0 (List.length a1)))]

noncomputable def L53a.XH : L53a.O → AHeap
  | .e0 a0 a1 => ((AObj.row 1 a0 (Col.ints IntKind.i64 a1)) :: ([]))

noncomputable def L53a.N : Nat → Int → Int → Nat → (List Int) → L53a.O
  | 0, _, _, rv, rl => .e0 rv rl
  | k_ + 1, s, i, rv, rl => (bif decide (s > 0) then (bif s.tmod 2 == 1 then (L53a.N k_ (IntKind.i64.wrap (s.tdiv 2)) (IntKind.i64.wrap (i + 1)) (rv + 1) (rl ++ [i])) else (L53a.N k_ (IntKind.i64.wrap (s.tdiv 2)) (IntKind.i64.wrap (i + 1)) (rv) (rl))) else (.e0 (rv) (rl)))

noncomputable def L53a.run (s : Int) (i : Int) (rv : Nat) (rl : List Int) : L53a.O := L53a.N ((s.toNat) + 1) s i rv rl

theorem L53a.nx {k_ : Nat} {z_ : Int × Int × Nat × (List Int)} {h_ : AHeap} (s_ : Int × Int × Nat × (List Int)) (h1 : L53a.inv s_.1 s_.2.1 s_.2.2.1 s_.2.2.2) (h2 : L53a.mu s_.1 s_.2.1 s_.2.2.1 s_.2.2.2 < L53a.mu z_.1 z_.2.1 z_.2.2.1 z_.2.2.2) (h3 : L53a.N k_ s_.1 s_.2.1 s_.2.2.1 s_.2.2.2 = L53a.N (k_ + 1) z_.1 z_.2.1 z_.2.2.1 z_.2.2.2) (h4 : PopOk (L53a.H z_.1 z_.2.1 z_.2.2.1 z_.2.2.2) h_ (L53a.T s_.1 s_.2.1 s_.2.2.1 s_.2.2.2) (L53a.H s_.1 s_.2.1 s_.2.2.1 s_.2.2.2)) : LNextP (fun (z_ : Int × Int × Nat × (List Int)) => L53a.T z_.1 z_.2.1 z_.2.2.1 z_.2.2.2) (fun (z_ : Int × Int × Nat × (List Int)) => L53a.H z_.1 z_.2.1 z_.2.2.1 z_.2.2.2) (fun (z_ : Int × Int × Nat × (List Int)) => L53a.inv z_.1 z_.2.1 z_.2.2.1 z_.2.2.2) (fun (z_ : Int × Int × Nat × (List Int)) => L53a.mu z_.1 z_.2.1 z_.2.2.1 z_.2.2.2) (fun (k_ : Nat) (z_ : Int × Int × Nat × (List Int)) => L53a.N k_ z_.1 z_.2.1 z_.2.2.1 z_.2.2.2) k_ z_ (L53a.T s_.1 s_.2.1 s_.2.2.1 s_.2.2.2) h_ := LNextP.mk (Tm := (fun (z_ : Int × Int × Nat × (List Int)) => L53a.T z_.1 z_.2.1 z_.2.2.1 z_.2.2.2)) (Hp := (fun (z_ : Int × Int × Nat × (List Int)) => L53a.H z_.1 z_.2.1 z_.2.2.1 z_.2.2.2)) (inv := (fun (z_ : Int × Int × Nat × (List Int)) => L53a.inv z_.1 z_.2.1 z_.2.2.1 z_.2.2.2)) (mu := (fun (z_ : Int × Int × Nat × (List Int)) => L53a.mu z_.1 z_.2.1 z_.2.2.1 z_.2.2.2)) (l := (fun (k_ : Nat) (z_ : Int × Int × Nat × (List Int)) => L53a.N k_ z_.1 z_.2.1 z_.2.2.1 z_.2.2.2)) s_ h1 h2 h3 h4

theorem L53a.en {k_ : Nat} {z_ : Int × Int × Nat × (List Int)} {h_ : AHeap} (o_ : L53a.O) (h3 : L53a.N (k_ + 1) z_.1 z_.2.1 z_.2.2.1 z_.2.2.2 = o_) (h4 : PopOk (L53a.H z_.1 z_.2.1 z_.2.2.1 z_.2.2.2) h_ (L53a.X o_) (L53a.XH o_)) : LEndP (fun (z_ : Int × Int × Nat × (List Int)) => L53a.H z_.1 z_.2.1 z_.2.2.1 z_.2.2.2) (fun (k_ : Nat) (z_ : Int × Int × Nat × (List Int)) => L53a.N k_ z_.1 z_.2.1 z_.2.2.1 z_.2.2.2) L53a.E (L53a.X) (L53a.XH) k_ z_ (L53a.E o_) (L53a.X o_) h_ := LEndP.mk (Hp := (fun (z_ : Int × Int × Nat × (List Int)) => L53a.H z_.1 z_.2.1 z_.2.2.1 z_.2.2.2)) (l := (fun (k_ : Nat) (z_ : Int × Int × Nat × (List Int)) => L53a.N k_ z_.1 z_.2.1 z_.2.2.1 z_.2.2.2)) (oE := L53a.E) (oT := L53a.X) (oH := L53a.XH) o_ h3 h4

theorem L53a.spec (k_ : Nat) (z_ : Int × Int × Nat × (List Int)) (hi_ : L53a.inv z_.1 z_.2.1 z_.2.2.1 z_.2.2.2) (hm_ : L53a.mu z_.1 z_.2.1 z_.2.2.1 z_.2.2.2 < k_) : LoopTo Try.prog (loopN Try.f53 0) (L53a.T z_.1 z_.2.1 z_.2.2.1 z_.2.2.2) (L53a.H z_.1 z_.2.1 z_.2.2.1 z_.2.2.2) (L53a.E (L53a.N k_ z_.1 z_.2.1 z_.2.2.1 z_.2.2.2)) (L53a.X (L53a.N k_ z_.1 z_.2.1 z_.2.2.1 z_.2.2.2)) (L53a.XH (L53a.N k_ z_.1 z_.2.1 z_.2.2.1 z_.2.2.2)) := by
  refine LoopTo.fuelP mix (fun (z_ : Int × Int × Nat × (List Int)) => L53a.T z_.1 z_.2.1 z_.2.2.1 z_.2.2.2) (fun (z_ : Int × Int × Nat × (List Int)) => L53a.H z_.1 z_.2.1 z_.2.2.1 z_.2.2.2) (fun (z_ : Int × Int × Nat × (List Int)) => L53a.inv z_.1 z_.2.1 z_.2.2.1 z_.2.2.2) (fun (z_ : Int × Int × Nat × (List Int)) => L53a.mu z_.1 z_.2.1 z_.2.2.1 z_.2.2.2) (fun (k_ : Nat) (z_ : Int × Int × Nat × (List Int)) => L53a.N k_ z_.1 z_.2.1 z_.2.2.1 z_.2.2.2) L53a.E (L53a.X) (L53a.XH) (others 20 [0, 3, 4]) (others 20 [2]) (others 20 [3]) ?_ k_ z_ hi_ hm_
  clear hm_ hi_ z_ k_
  intro k_ z_ hinv hmu
  obtain ⟨s, i, rv, rl⟩ := z_
  have hinv : (0 ≤ s ∧ s ≤ 100) ∧ (0 ≤ i ∧ i + s ≤ 100) ∧ (↑rl.length : Int) ≤ i := hinv
  have hmu : (s.toNat) < k_ + 1 := hmu
  cases h1 : decide (s > 0) with
  | true =>
    have h1p := of_decide_eq_true h1
    cases h2 : s.tmod 2 == 1 with
    | true =>
      have h2p := eq_of_beq h2
      try have := bd_half (by first | assumption | omega) (by first | assumption | omega)
      have o0 : (rl.length + (1 : Nat)) * (8 : Nat) ≤ (140737488355328 : Nat) := by first | assumption | omega | (simp only [List.length_append, List.length_cons, List.length_nil, List.length_map]; omega) | (simp_all; done)
      have o1 : rl.length = (Col.ints IntKind.i64 rl).len := by first | assumption | omega | (simp only [List.length_append, List.length_cons, List.length_nil, List.length_map]; omega) | rfl | (exact Nat.le_refl _) | (simp [Col.len]; done) | (simp only [Col.len, zero_bool, zero_int, List.length_replicate, List.length_set] at *; omega) | (simp_all; done)
      try have := IntWalk.i64_in (s.tdiv 2) (by omega)
      have o2 : (0 : Int) ≤ IntKind.i64.wrap (s.tdiv (2 : Int)) := by first | assumption | omega | (simp_all; done)
      have o3 : IntKind.i64.wrap (s.tdiv (2 : Int)) ≤ (100 : Int) := by first | assumption | omega | (simp_all; done)
      try have := IntWalk.i64_in (i + 1) (by omega)
      have o4 : (0 : Int) ≤ IntKind.i64.wrap (i + (1 : Int)) := by first | assumption | omega | (simp_all; done)
      have o5 : IntKind.i64.wrap (i + (1 : Int)) + IntKind.i64.wrap (s.tdiv (2 : Int)) ≤ (100 : Int) := by first | assumption | omega | (simp_all; done)
      have o6 : (↑(rl ++ [i]).length : Int) ≤ IntKind.i64.wrap (i + (1 : Int)) := by first | assumption | omega | (simp only [List.length_append, List.length_cons, List.length_nil, List.length_map]; omega) | (simp_all; done)
      have o7 : (IntKind.i64.wrap (s.tdiv (2 : Int))).toNat < s.toNat := by first | assumption | omega | (simp_all; done)
      exact ⟨[.b true, .b true, .app .one false], kmp (by kernel_rfl) (And.intro h1 (And.intro (show (2 : Int) = (0 : Int) → False by first | decide | exact Int.NonNeg.mk _) (And.intro h2 (And.intro (And.intro (show (1 : Nat) = (1 : Nat) by first | decide | exact Int.NonNeg.mk _) (And.intro (show AppMode.one.needs 1 fun (a : Nat) => (Col.ofList [AV.int IntKind.i64 i]).get a by first | exact ⟨rfl, rfl⟩ | simp [AppMode.needs]) (And.intro o0 (And.intro (rfl : rv = rv) (And.intro (show (0 : Nat) = (0 : Nat) by first | decide | exact Int.NonNeg.mk _) o1))))) (And.intro (show (2 : Int) = (0 : Int) → False by first | decide | exact Int.NonNeg.mk _) (L53a.nx (k_ := k_) (z_ := (s, i, rv, rl)) ((IntKind.i64.wrap (s.tdiv 2), IntKind.i64.wrap (i + 1), rv + 1, rl ++ [i])) (And.intro (And.intro o2 o3) (And.intro (And.intro o4 o5) o6)) o7 (by first | (simp only [L53a.N, h1, h2, cond_true, cond_false]; done) | (try unfold L53a.N; try simp only [h1, cond_true, cond_false]; try simp only [h2, cond_true, cond_false]; try rfl; done)) PopOk.same))))))⟩
    | false =>
      have h2p := ne_of_beq_false h2
      try have := bd_half (by first | assumption | omega) (by first | assumption | omega)
      try have := IntWalk.i64_in (s.tdiv 2) (by omega)
      have o2 : (0 : Int) ≤ IntKind.i64.wrap (s.tdiv (2 : Int)) := by first | assumption | omega | (simp_all; done)
      have o3 : IntKind.i64.wrap (s.tdiv (2 : Int)) ≤ (100 : Int) := by first | assumption | omega | (simp_all; done)
      try have := IntWalk.i64_in (i + 1) (by omega)
      have o4 : (0 : Int) ≤ IntKind.i64.wrap (i + (1 : Int)) := by first | assumption | omega | (simp_all; done)
      have o5 : IntKind.i64.wrap (i + (1 : Int)) + IntKind.i64.wrap (s.tdiv (2 : Int)) ≤ (100 : Int) := by first | assumption | omega | (simp_all; done)
      have o8 : (↑rl.length : Int) ≤ IntKind.i64.wrap (i + (1 : Int)) := by first | assumption | omega | (simp only [List.length_append, List.length_cons, List.length_nil, List.length_map]; omega) | (simp_all; done)
      have o7 : (IntKind.i64.wrap (s.tdiv (2 : Int))).toNat < s.toNat := by first | assumption | omega | (simp_all; done)
      exact ⟨[.b true, .b false], kmp (by kernel_rfl) (And.intro h1 (And.intro (show (2 : Int) = (0 : Int) → False by first | decide | exact Int.NonNeg.mk _) (And.intro h2 (And.intro (show (2 : Int) = (0 : Int) → False by first | decide | exact Int.NonNeg.mk _) (L53a.nx (k_ := k_) (z_ := (s, i, rv, rl)) ((IntKind.i64.wrap (s.tdiv 2), IntKind.i64.wrap (i + 1), rv, rl)) (And.intro (And.intro o2 o3) (And.intro (And.intro o4 o5) o8)) o7 (by first | (simp only [L53a.N, h1, h2, cond_true, cond_false]; done) | (try unfold L53a.N; try simp only [h1, cond_true, cond_false]; try simp only [h2, cond_true, cond_false]; try rfl; done)) PopOk.same)))))⟩
  | false =>
    have h1p := of_decide_eq_false h1
    exact ⟨[.b false], kmp (by kernel_rfl) (And.intro h1 (L53a.en (k_ := k_) (z_ := (s, i, rv, rl)) (.e0 (rv) (rl) : L53a.O) (by first | (simp only [L53a.N, h1, cond_true, cond_false]; done) | (try unfold L53a.N; try simp only [h1, cond_true, cond_false]; try rfl; done)) PopOk.same))⟩

theorem L53a.e0 (s : Int) (i : Int) (rv : Nat) (rl : List Int) (hinv : L53a.inv s i rv rl) (a0 : Nat) (a1 : List Int) (hN : L53a.run s i rv rl = (.e0 a0 a1 : L53a.O)) : LoopTo Try.prog (loopN Try.f53 0) (L53a.T s i rv rl) (L53a.H s i rv rl) (Exit.exit 0) (L53a.X (.e0 a0 a1 : L53a.O)) (L53a.XH (.e0 a0 a1 : L53a.O)) := by
  have h_ := L53a.spec ((s.toNat) + 1) (s, i, rv, rl) hinv (Nat.lt_succ_self _)
  unfold L53a.run at hN
  simp only [hN] at h_
  exact h_

theorem L53a.len0_1 : ∀ (m_ : Nat) (s : Int) (i : Int) (rv : Nat) (rl : List Int) (a0_ : Nat) (a1_ : List Int), L53a.N m_ s i rv rl = (.e0 a0_ a1_ : L53a.O) → (a1_).length ≤ (rl).length + m_ := by
  intro m_
  induction m_ with
  | zero =>
    intro s i rv rl a0_ a1_ h_
    simp only [L53a.N] at h_
    first | (cases h_; done) | (cases h_; first | exact Nat.zero_le _ | omega)
  | succ m_ ih_ =>
    intro s i rv rl a0_ a1_ h_
    cases h1 : decide (s > 0) with
    | true =>
      have h1p := of_decide_eq_true h1
      cases h2 : s.tmod 2 == 1 with
      | true =>
        have h2p := eq_of_beq h2
        (simp only [L53a.N, h1, h2, cond_true, cond_false] at h_; first | (have := ih_ _ _ _ _ _ _ h_; (try simp only [List.length_append, List.length_cons, List.length_nil, List.length_set] at this); omega) | (cases h_; done) | (cases h_; omega))
      | false =>
        have h2p := ne_of_beq_false h2
        (simp only [L53a.N, h1, h2, cond_true, cond_false] at h_; first | (have := ih_ _ _ _ _ _ _ h_; (try simp only [List.length_append, List.length_cons, List.length_nil, List.length_set] at this); omega) | (cases h_; done) | (cases h_; omega))
    | false =>
      have h1p := of_decide_eq_false h1
      (simp only [L53a.N, h1, cond_true, cond_false] at h_; first | (have := ih_ _ _ _ _ _ _ h_; (try simp only [List.length_append, List.length_cons, List.length_nil, List.length_set] at this); omega) | (cases h_; done) | (cases h_; omega))

theorem L53a.lenR0_1 {s : Int} {i : Int} {rv : Nat} {rl : List Int} {a0_ : Nat} {a1_ : List Int} (h_ : L53a.run s i rv rl = (.e0 a0_ a1_ : L53a.O)) : (a1_).length ≤ (rl).length + ((s.toNat) + 1) := L53a.len0_1 _ s i rv rl a0_ a1_ h_

noncomputable def r53.v (s : Int) : List Int := (match L53a.run s 0 0 [] with | .e0 h1d0 h1d1 => h1d1 )

theorem r53 (s : Int) (h0 : 0 ≤ s) (h1 : s ≤ 100) (h : AHeap) : Ret Try.prog 53 ([AV.int IntKind.i64 s]) h (avInts IntKind.i64 (r53.v s)) h := by
  have o0 : (0 : Int) ≤ s := by first | assumption | omega | (simp_all; done)
  have o1 : s ≤ (100 : Int) := by first | assumption | omega | (simp_all; done)
  have o2 : (0 : Int) + s ≤ (100 : Int) := by first | assumption | omega | (simp_all; done)
  cases h1 : L53a.run s 0 0 [] with
  | e0 h1d0 h1d1 =>
    try have := L53a.lenR0_1 (by assumption); (try simp only [List.length_nil] at this)
    have o3 : (0 : Nat) + h1d1.length ≤ (Col.ints IntKind.i64 h1d1).len := by first | assumption | omega | (simp only [List.length_append, List.length_cons, List.length_nil, List.length_map]; omega) | rfl | (exact Nat.le_refl _) | (simp [Col.len]; done) | (simp only [Col.len, zero_bool, zero_int, List.length_replicate, List.length_set] at *; omega) | (simp_all; done)
    exact Ret.of_run1 mix [(avInts IntKind.i64 (r53.v s))] Try.func53 rfl [.virt [] [(none, 3, 1, Col.ints IntKind.i64 [])], .loop (others 20 [0, 3, 4]) (Exit.exit 0) (L53a.X (L53a.O.e0 h1d0 h1d1)) (L53a.XH (L53a.O.e0 h1d0 h1d1))] (by simp) (by simp) (kmp (by kernel_rfl) (And.intro (And.intro (rfl : AV.snil = AV.snil) (And.intro (rfl : (0 : Nat) = 0) trivial)) (And.intro (L53a.e0 (s) (0) (0) ([]) (And.intro (And.intro o0 o1) (And.intro (And.intro (show (0 : Int) ≤ (0 : Int) by first | decide | exact Int.NonNeg.mk _) o2) (show (0 : Int) ≤ (0 : Int) by first | decide | exact Int.NonNeg.mk _))) h1d0 h1d1 h1) (And.intro (And.intro (rfl : h1d0 = h1d0) (And.intro (show (1 : Nat) = (1 : Nat) by first | decide | exact Int.NonNeg.mk _) (And.intro o3 (show ((avInts IntKind.i64 h1d1)) = ((avInts IntKind.i64 (r53.v s))) by first | (simp only [r53.v, h1, cond_true, cond_false]; done) | (try unfold r53.v; try simp only [h1, cond_true, cond_false]; try rfl; done) | rfl)))) trivial)))) h

end Go.Proofs.Ytgmppoappaolkaa

open Go

namespace Go.Proofs.Ytgmppoappaolkaa

set_option linter.unusedSimpArgs false

set_option linter.unusedVariables false

set_option maxHeartbeats 0

set_option maxRecDepth 100000

theorem bd53 {s : Int} (h1 : s ≤ 100) (h0 : 0 ≤ s) : (r53.v s).length ≤ 101 := by
  unfold r53.v
  cases e : L53a.run s 0 0 [] with
  | e0 a b =>
    have := L53a.lenR0_1 e
    simp only [List.length_nil] at this
    show b.length ≤ 101
    omega

theorem len53 {s : Int} (h1 : s ≤ 100) (h0 : 0 ≤ s) : (r53.v s).length ≤ 9223372036854775807 := by
  have := bd53 h1 h0; omega

theorem len53b {s : Int} (h1 : s ≤ 100) (h0 : 0 ≤ s) : (r53.v s).length ≤ 101 := bd53 h1 h0

theorem n_cases {n : Nat} (hn : (n : Int) ≤ 6) : n = 0 ∨ n = 1 ∨ n = 2 ∨ n = 3 ∨ n = 4 ∨ n = 5 ∨ n = 6 := by omega

theorem all_eq {n : Nat} (hn : (n : Int) ≤ 6) : IntKind.i64.wrap (IntKind.i64.wrap (1 * 2 ^ min (IntKind.u64.wrap (n : Int)).toNat 64) - 1) = ((2 ^ n : Nat) : Int) - 1 := by
  rcases n_cases hn with rfl | rfl | rfl | rfl | rfl | rfl | rfl <;> rfl

theorem pow_bd {n : Nat} (hn : (n : Int) ≤ 6) : 1 ≤ 2 ^ n ∧ 2 ^ n ≤ 64 := by
  rcases n_cases hn with rfl | rfl | rfl | rfl | rfl | rfl | rfl <;> decide

theorem all_0 {n : Nat} (hn : (n : Int) ≤ 6) : 0 ≤ IntKind.i64.wrap (IntKind.i64.wrap (1 * 2 ^ min (IntKind.u64.wrap (n : Int)).toNat 64) - 1) := by
  rw [all_eq hn]; have := pow_bd hn; omega

theorem all_63 {n : Nat} (hn : (n : Int) ≤ 6) : IntKind.i64.wrap (IntKind.i64.wrap (1 * 2 ^ min (IntKind.u64.wrap (n : Int)).toNat 64) - 1) ≤ 63 := by
  rw [all_eq hn]; have := pow_bd hn; omega

theorem all_100 {n : Nat} (hn : (n : Int) ≤ 6) : IntKind.i64.wrap (IntKind.i64.wrap (1 * 2 ^ min (IntKind.u64.wrap (n : Int)).toNat 64) - 1) ≤ 100 := by
  rw [all_eq hn]; have := pow_bd hn; omega

inductive L32a.O where
  | e0 (a0 : List Int)

noncomputable def L32a.T (n : Nat) (g : Nat → SD) (nb : Nat) (gb : Nat → BD) (m : Int) (A : Int) (a9 : Int) (bl : List Int) : List AV := mkT 37 [(0, sts n g), (1, blks nb gb), (2, AV.int IntKind.i64 m), (7, AV.int IntKind.i64 A), (8, AV.sl 1 bl.length fun (a : Nat) => AV.int IntKind.i64 (bl.getD a 0)), (9, AV.int IntKind.i64 a9)]

noncomputable def L32a.H (n : Nat) (g : Nat → SD) (nb : Nat) (gb : Nat → BD) (m : Int) (A : Int) (a9 : Int) (bl : List Int) : AHeap := []

def L32a.inv (n : Nat) (g : Nat → SD) (nb : Nat) (gb : Nat → BD) (m : Int) (A : Int) (a9 : Int) (bl : List Int) : Prop := (0 ≤ a9 ∧ a9 ≤ 64) ∧ bl.length ≤ 101

noncomputable def L32a.mu (n : Nat) (g : Nat → SD) (nb : Nat) (gb : Nat → BD) (m : Int) (A : Int) (a9 : Int) (bl : List Int) : Nat := (A + 1 - a9).toNat

noncomputable def L32a.E : L32a.O → Exit
  | .e0 a0 => Exit.exit 0

noncomputable def L32a.X (n : Nat) (g : Nat → SD) (nb : Nat) (gb : Nat → BD) (m : Int) (A : Int) : L32a.O → List AV
  | .e0 a0 => mkT 37 [(8, (avInts IntKind.i64 a0))]

noncomputable def L32a.XH (n : Nat) (g : Nat → SD) (nb : Nat) (gb : Nat → BD) (m : Int) (A : Int) : L32a.O → AHeap
  | .e0 a0 => ([])

noncomputable def L32a.N (n : Nat) (g : Nat → SD) (nb : Nat) (gb : Nat → BD) (m : Int) (A : Int) : Nat → Int → (List Int) → L32a.O
  | 0, _, bl => .e0 bl
  | k_ + 1, a9, bl => (bif decide (a9 ≤ A) then (bif r54.v (r53.v a9).length (fun (i : Nat) => (r53.v a9).getD i 0) bl.length fun (i : Nat) => bl.getD i 0 then (bif r55.v n g nb gb m a9 then (L32a.N n g nb gb m A k_ (IntKind.i64.wrap (a9 + 1)) (r53.v a9)) else (L32a.N n g nb gb m A k_ (IntKind.i64.wrap (a9 + 1)) (bl))) else (L32a.N n g nb gb m A k_ (IntKind.i64.wrap (a9 + 1)) (bl))) else (.e0 (bl)))

noncomputable def L32a.run (n : Nat) (g : Nat → SD) (nb : Nat) (gb : Nat → BD) (m : Int) (A : Int) (a9 : Int) (bl : List Int) : L32a.O := L32a.N n g nb gb m A (((A + 1 - a9).toNat) + 1) a9 bl

theorem L32a.nx (n : Nat) (g : Nat → SD) (nb : Nat) (gb : Nat → BD) (m : Int) (A : Int) {k_ : Nat} {z_ : Int × (List Int)} {h_ : AHeap} (s_ : Int × (List Int)) (h1 : L32a.inv n g nb gb m A s_.1 s_.2) (h2 : L32a.mu n g nb gb m A s_.1 s_.2 < L32a.mu n g nb gb m A z_.1 z_.2) (h3 : L32a.N n g nb gb m A k_ s_.1 s_.2 = L32a.N n g nb gb m A (k_ + 1) z_.1 z_.2) (h4 : PopOk (L32a.H n g nb gb m A z_.1 z_.2) h_ (L32a.T n g nb gb m A s_.1 s_.2) (L32a.H n g nb gb m A s_.1 s_.2)) : LNextP (fun (z_ : Int × (List Int)) => L32a.T n g nb gb m A z_.1 z_.2) (fun (z_ : Int × (List Int)) => L32a.H n g nb gb m A z_.1 z_.2) (fun (z_ : Int × (List Int)) => L32a.inv n g nb gb m A z_.1 z_.2) (fun (z_ : Int × (List Int)) => L32a.mu n g nb gb m A z_.1 z_.2) (fun (k_ : Nat) (z_ : Int × (List Int)) => L32a.N n g nb gb m A k_ z_.1 z_.2) k_ z_ (L32a.T n g nb gb m A s_.1 s_.2) h_ := LNextP.mk (Tm := (fun (z_ : Int × (List Int)) => L32a.T n g nb gb m A z_.1 z_.2)) (Hp := (fun (z_ : Int × (List Int)) => L32a.H n g nb gb m A z_.1 z_.2)) (inv := (fun (z_ : Int × (List Int)) => L32a.inv n g nb gb m A z_.1 z_.2)) (mu := (fun (z_ : Int × (List Int)) => L32a.mu n g nb gb m A z_.1 z_.2)) (l := (fun (k_ : Nat) (z_ : Int × (List Int)) => L32a.N n g nb gb m A k_ z_.1 z_.2)) s_ h1 h2 h3 h4

theorem L32a.en (n : Nat) (g : Nat → SD) (nb : Nat) (gb : Nat → BD) (m : Int) (A : Int) {k_ : Nat} {z_ : Int × (List Int)} {h_ : AHeap} (o_ : L32a.O) (h3 : L32a.N n g nb gb m A (k_ + 1) z_.1 z_.2 = o_) (h4 : PopOk (L32a.H n g nb gb m A z_.1 z_.2) h_ (L32a.X n g nb gb m A o_) (L32a.XH n g nb gb m A o_)) : LEndP (fun (z_ : Int × (List Int)) => L32a.H n g nb gb m A z_.1 z_.2) (fun (k_ : Nat) (z_ : Int × (List Int)) => L32a.N n g nb gb m A k_ z_.1 z_.2) L32a.E (L32a.X n g nb gb m A) (L32a.XH n g nb gb m A) k_ z_ (L32a.E o_) (L32a.X n g nb gb m A o_) h_ := LEndP.mk (Hp := (fun (z_ : Int × (List Int)) => L32a.H n g nb gb m A z_.1 z_.2)) (l := (fun (k_ : Nat) (z_ : Int × (List Int)) => L32a.N n g nb gb m A k_ z_.1 z_.2)) (oE := L32a.E) (oT := L32a.X n g nb gb m A) (oH := L32a.XH n g nb gb m A) o_ h3 h4

theorem L32a.spec (n : Nat) (g : Nat → SD) (hn : (↑n : Int) ≤ 6) (hg : ∀ (i : Nat), i < n → (g i).nl = (g i).nr) (nb : Nat) (gb : Nat → BD) (hnb : nb ≤ 256) (m : Int) (A : Int) (hA0 : 0 ≤ A) (hA : A ≤ 63) (k_ : Nat) (z_ : Int × (List Int)) (hi_ : L32a.inv n g nb gb m A z_.1 z_.2) (hm_ : L32a.mu n g nb gb m A z_.1 z_.2 < k_) : LoopTo Try.prog (loopN Try.f32 0) (L32a.T n g nb gb m A z_.1 z_.2) (L32a.H n g nb gb m A z_.1 z_.2) (L32a.E (L32a.N n g nb gb m A k_ z_.1 z_.2)) (L32a.X n g nb gb m A (L32a.N n g nb gb m A k_ z_.1 z_.2)) (L32a.XH n g nb gb m A (L32a.N n g nb gb m A k_ z_.1 z_.2)) := by
  refine LoopTo.fuelP mix (fun (z_ : Int × (List Int)) => L32a.T n g nb gb m A z_.1 z_.2) (fun (z_ : Int × (List Int)) => L32a.H n g nb gb m A z_.1 z_.2) (fun (z_ : Int × (List Int)) => L32a.inv n g nb gb m A z_.1 z_.2) (fun (z_ : Int × (List Int)) => L32a.mu n g nb gb m A z_.1 z_.2) (fun (k_ : Nat) (z_ : Int × (List Int)) => L32a.N n g nb gb m A k_ z_.1 z_.2) L32a.E (L32a.X n g nb gb m A) (L32a.XH n g nb gb m A) (others 37 [0, 1, 2, 7, 8, 9]) (others 37 [6]) (others 37 [8]) ?_ k_ z_ hi_ hm_
  clear hm_ hi_ z_ k_
  intro k_ z_ hinv hmu
  obtain ⟨a9, bl⟩ := z_
  have hinv : (0 ≤ a9 ∧ a9 ≤ 64) ∧ bl.length ≤ 101 := hinv
  have hmu : ((A + 1 - a9).toNat) < k_ + 1 := hmu
  cases h1 : decide (a9 ≤ A) with
  | true =>
    have h1p := of_decide_eq_true h1
    have o0 : (0 : Int) ≤ a9 := by first | assumption | omega | (exact hg _) | (exact hg _ (by omega)) | (simp_all; done)
    have o1 : a9 ≤ (100 : Int) := by first | assumption | omega | (exact hg _) | (exact hg _ (by omega)) | (simp_all; done)
    have o2 : (r53.v a9).length ≤ (9223372036854775807 : Nat) := by first | assumption | omega | (simp only [List.length_append, List.length_cons, List.length_nil, List.length_map]; omega) | (apply len53 <;> first | assumption | omega) | (exact hg _) | (exact hg _ (by omega)) | (simp_all; done)
    have o3 : bl.length ≤ (9223372036854775807 : Nat) := by first | assumption | omega | (simp only [List.length_append, List.length_cons, List.length_nil, List.length_map]; omega) | (exact hg _) | (exact hg _ (by omega)) | (simp_all; done)
    cases h2 : r54.v (r53.v a9).length (fun (i : Nat) => (r53.v a9).getD i 0) bl.length fun (i : Nat) => bl.getD i 0 with
    | true =>
      have o4 : (↑n : Int) ≤ (64 : Int) := by first | assumption | omega | (exact hg _) | (exact hg _ (by omega)) | (simp_all; done)
      have o5 : ∀ (i : Nat), i < n → (g i).nl = (g i).nr := by first | assumption | omega | (exact hg _) | (exact hg _ (by omega)) | (simp_all; done)
      have o6 : nb ≤ (256 : Nat) := by first | assumption | omega | (exact hg _) | (exact hg _ (by omega)) | (simp_all; done)
      cases h3 : r55.v n g nb gb m a9 with
      | true =>
        try have := IntWalk.i64_in (a9 + 1) (by omega)
        have o7 : (0 : Int) ≤ IntKind.i64.wrap (a9 + (1 : Int)) := by first | assumption | omega | (exact hg _) | (exact hg _ (by omega)) | (simp_all; done)
        have o8 : IntKind.i64.wrap (a9 + (1 : Int)) ≤ (64 : Int) := by first | assumption | omega | (exact hg _) | (exact hg _ (by omega)) | (simp_all; done)
        have o9 : (r53.v a9).length ≤ (101 : Nat) := by first | assumption | omega | (simp only [List.length_append, List.length_cons, List.length_nil, List.length_map]; omega) | (apply len53b <;> first | assumption | omega) | (exact hg _) | (exact hg _ (by omega)) | (simp_all; done)
        have o10 : (A + (1 : Int) - IntKind.i64.wrap (a9 + (1 : Int))).toNat < (A + (1 : Int) - a9).toNat := by first | assumption | omega | (exact hg _) | (exact hg _ (by omega)) | (simp_all; done)
        exact ⟨[.b true, .ret (AV.sl 1 (r53.v a9).length fun (a : Nat) => AV.int IntKind.i64 ((r53.v a9).getD a 0)) ([]), .ret (AV.bool (r54.v (r53.v a9).length (fun (i : Nat) => (r53.v a9).getD i 0) bl.length fun (i : Nat) => bl.getD i 0)) ([]), .b true, .b true, .b true, .b true, .b true, .ret (AV.bool (r55.v n g nb gb m a9)) ([]), .b true, .b true], kmp (by kernel_rfl) (And.intro h1 (And.intro (r53 (a9) o0 o1 ([])) (And.intro (r54 ((r53.v a9).length) (fun (i : Nat) => (r53.v a9).getD i 0) o2 (bl.length) (fun (i : Nat) => bl.getD i 0) o3 ([])) (And.intro h2 (And.intro h2 (And.intro h2 (And.intro h2 (And.intro h2 (And.intro (r55 (n) (g) o4 o5 (nb) (gb) o6 (m) (a9) ([])) (And.intro h2 (And.intro h3 (L32a.nx n g nb gb m A (k_ := k_) (z_ := (a9, bl)) ((IntKind.i64.wrap (a9 + 1), r53.v a9)) (And.intro (And.intro o7 o8) o9) o10 (by first | (simp only [L32a.N, h1, h2, h3, cond_true, cond_false]; done) | (try unfold L32a.N; try simp only [h1, cond_true, cond_false]; try simp only [h2, cond_true, cond_false]; try simp only [h3, cond_true, cond_false]; try rfl; done)) PopOk.same))))))))))))⟩
      | false =>
        try have := IntWalk.i64_in (a9 + 1) (by omega)
        have o7 : (0 : Int) ≤ IntKind.i64.wrap (a9 + (1 : Int)) := by first | assumption | omega | (exact hg _) | (exact hg _ (by omega)) | (simp_all; done)
        have o8 : IntKind.i64.wrap (a9 + (1 : Int)) ≤ (64 : Int) := by first | assumption | omega | (exact hg _) | (exact hg _ (by omega)) | (simp_all; done)
        have o11 : bl.length ≤ (101 : Nat) := by first | assumption | omega | (simp only [List.length_append, List.length_cons, List.length_nil, List.length_map]; omega) | (exact hg _) | (exact hg _ (by omega)) | (simp_all; done)
        have o10 : (A + (1 : Int) - IntKind.i64.wrap (a9 + (1 : Int))).toNat < (A + (1 : Int) - a9).toNat := by first | assumption | omega | (exact hg _) | (exact hg _ (by omega)) | (simp_all; done)
        exact ⟨[.b true, .ret (AV.sl 1 (r53.v a9).length fun (a : Nat) => AV.int IntKind.i64 ((r53.v a9).getD a 0)) ([]), .ret (AV.bool (r54.v (r53.v a9).length (fun (i : Nat) => (r53.v a9).getD i 0) bl.length fun (i : Nat) => bl.getD i 0)) ([]), .b true, .b true, .b true, .b true, .b true, .ret (AV.bool (r55.v n g nb gb m a9)) ([]), .b true, .b false], kmp (by kernel_rfl) (And.intro h1 (And.intro (r53 (a9) o0 o1 ([])) (And.intro (r54 ((r53.v a9).length) (fun (i : Nat) => (r53.v a9).getD i 0) o2 (bl.length) (fun (i : Nat) => bl.getD i 0) o3 ([])) (And.intro h2 (And.intro h2 (And.intro h2 (And.intro h2 (And.intro h2 (And.intro (r55 (n) (g) o4 o5 (nb) (gb) o6 (m) (a9) ([])) (And.intro h2 (And.intro h3 (L32a.nx n g nb gb m A (k_ := k_) (z_ := (a9, bl)) ((IntKind.i64.wrap (a9 + 1), bl)) (And.intro (And.intro o7 o8) o11) o10 (by first | (simp only [L32a.N, h1, h2, h3, cond_true, cond_false]; done) | (try unfold L32a.N; try simp only [h1, cond_true, cond_false]; try simp only [h2, cond_true, cond_false]; try simp only [h3, cond_true, cond_false]; try rfl; done)) PopOk.same))))))))))))⟩
    | false =>
      try have := IntWalk.i64_in (a9 + 1) (by omega)
      have o7 : (0 : Int) ≤ IntKind.i64.wrap (a9 + (1 : Int)) := by first | assumption | omega | (exact hg _) | (exact hg _ (by omega)) | (simp_all; done)
      have o8 : IntKind.i64.wrap (a9 + (1 : Int)) ≤ (64 : Int) := by first | assumption | omega | (exact hg _) | (exact hg _ (by omega)) | (simp_all; done)
      have o11 : bl.length ≤ (101 : Nat) := by first | assumption | omega | (simp only [List.length_append, List.length_cons, List.length_nil, List.length_map]; omega) | (exact hg _) | (exact hg _ (by omega)) | (simp_all; done)
      have o10 : (A + (1 : Int) - IntKind.i64.wrap (a9 + (1 : Int))).toNat < (A + (1 : Int) - a9).toNat := by first | assumption | omega | (exact hg _) | (exact hg _ (by omega)) | (simp_all; done)
      exact ⟨[.b true, .ret (AV.sl 1 (r53.v a9).length fun (a : Nat) => AV.int IntKind.i64 ((r53.v a9).getD a 0)) ([]), .ret (AV.bool (r54.v (r53.v a9).length (fun (i : Nat) => (r53.v a9).getD i 0) bl.length fun (i : Nat) => bl.getD i 0)) ([]), .b false, .b false, .b false, .b false, .b false, .b false, .b false], kmp (by kernel_rfl) (And.intro h1 (And.intro (r53 (a9) o0 o1 ([])) (And.intro (r54 ((r53.v a9).length) (fun (i : Nat) => (r53.v a9).getD i 0) o2 (bl.length) (fun (i : Nat) => bl.getD i 0) o3 ([])) (And.intro h2 (And.intro h2 (And.intro h2 (And.intro h2 (And.intro h2 (And.intro h2 (And.intro (rfl : false = false) (L32a.nx n g nb gb m A (k_ := k_) (z_ := (a9, bl)) ((IntKind.i64.wrap (a9 + 1), bl)) (And.intro (And.intro o7 o8) o11) o10 (by first | (simp only [L32a.N, h1, h2, cond_true, cond_false]; done) | (try unfold L32a.N; try simp only [h1, cond_true, cond_false]; try simp only [h2, cond_true, cond_false]; try rfl; done)) PopOk.same)))))))))))⟩
  | false =>
    have h1p := of_decide_eq_false h1
    exact ⟨[.b false], kmp (by kernel_rfl) (And.intro h1 (L32a.en n g nb gb m A (k_ := k_) (z_ := (a9, bl)) (.e0 (bl) : L32a.O) (by first | (simp only [L32a.N, h1, cond_true, cond_false]; done) | (try unfold L32a.N; try simp only [h1, cond_true, cond_false]; try rfl; done)) PopOk.same))⟩

theorem L32a.e0 (n : Nat) (g : Nat → SD) (hn : (↑n : Int) ≤ 6) (hg : ∀ (i : Nat), i < n → (g i).nl = (g i).nr) (nb : Nat) (gb : Nat → BD) (hnb : nb ≤ 256) (m : Int) (A : Int) (hA0 : 0 ≤ A) (hA : A ≤ 63) (a9 : Int) (bl : List Int) (hinv : L32a.inv n g nb gb m A a9 bl) (a0 : List Int) (hN : L32a.run n g nb gb m A a9 bl = (.e0 a0 : L32a.O)) : LoopTo Try.prog (loopN Try.f32 0) (L32a.T n g nb gb m A a9 bl) (L32a.H n g nb gb m A a9 bl) (Exit.exit 0) (L32a.X n g nb gb m A (.e0 a0 : L32a.O)) (L32a.XH n g nb gb m A (.e0 a0 : L32a.O)) := by
  have h_ := L32a.spec n g hn hg nb gb hnb m A hA0 hA (((A + 1 - a9).toNat) + 1) (a9, bl) hinv (Nat.lt_succ_self _)
  unfold L32a.run at hN
  simp only [hN] at h_
  exact h_

noncomputable def r32.v (n : Nat) (g : Nat → SD) (nb : Nat) (gb : Nat → BD) (m : Int) : List Int := (match L32a.run n g nb gb m (IntKind.i64.wrap (IntKind.i64.wrap (1 * 2 ^ min (IntKind.u64.wrap (↑n : Int)).toNat 64) - 1)) 0 (r53.v (IntKind.i64.wrap (IntKind.i64.wrap (1 * 2 ^ min (IntKind.u64.wrap (↑n : Int)).toNat 64) - 1))) with | .e0 h1d0 => h1d0 )

theorem r32 (n : Nat) (g : Nat → SD) (hn : (↑n : Int) ≤ 6) (hg : ∀ (i : Nat), i < n → (g i).nl = (g i).nr) (nb : Nat) (gb : Nat → BD) (hnb : nb ≤ 256) (m : Int) (h : AHeap) : Ret Try.prog 32 ([sts n g, blks nb gb, AV.int IntKind.i64 m]) h (avInts IntKind.i64 (r32.v n g nb gb m)) h := by
  try have := IntWalk.u64_in ((↑n : Int)) (by omega)
  have o0 : (0 : Int) ≤ IntKind.u64.wrap (↑n : Int) := by first | assumption | omega | (exact hg _) | (exact hg _ (by omega)) | (simp_all; done)
  try have := IntWalk.i64_in (1 * 2 ^ min (IntKind.u64.wrap (↑n : Int)).toNat 64) (by omega)
  try have := IntWalk.i64_in (IntKind.i64.wrap (1 * 2 ^ min (IntKind.u64.wrap (↑n : Int)).toNat 64) - 1) (by omega)
  have o1 : (0 : Int) ≤ IntKind.i64.wrap (IntKind.i64.wrap ((1 : Int) * (2 : Int) ^ min (IntKind.u64.wrap (↑n : Int)).toNat (64 : Nat)) - (1 : Int)) := by first | assumption | omega | (apply all_0 <;> first | assumption | omega) | (exact hg _) | (exact hg _ (by omega)) | (simp_all; done)
  have o2 : IntKind.i64.wrap (IntKind.i64.wrap ((1 : Int) * (2 : Int) ^ min (IntKind.u64.wrap (↑n : Int)).toNat (64 : Nat)) - (1 : Int)) ≤ (100 : Int) := by first | assumption | omega | (apply all_100 <;> first | assumption | omega) | (exact hg _) | (exact hg _ (by omega)) | (simp_all; done)
  have o3 : (↑n : Int) ≤ (6 : Int) := by first | assumption | omega | (exact hg _) | (exact hg _ (by omega)) | (simp_all; done)
  have o4 : ∀ (i : Nat), i < n → (g i).nl = (g i).nr := by first | assumption | omega | (exact hg _) | (exact hg _ (by omega)) | (simp_all; done)
  have o5 : nb ≤ (256 : Nat) := by first | assumption | omega | (exact hg _) | (exact hg _ (by omega)) | (simp_all; done)
  have o6 : IntKind.i64.wrap (IntKind.i64.wrap ((1 : Int) * (2 : Int) ^ min (IntKind.u64.wrap (↑n : Int)).toNat (64 : Nat)) - (1 : Int)) ≤ (63 : Int) := by first | assumption | omega | (apply all_63 <;> first | assumption | omega) | (exact hg _) | (exact hg _ (by omega)) | (simp_all; done)
  have o7 : (r53.v (IntKind.i64.wrap (IntKind.i64.wrap ((1 : Int) * (2 : Int) ^ min (IntKind.u64.wrap (↑n : Int)).toNat (64 : Nat)) - (1 : Int)))).length ≤ (101 : Nat) := by first | assumption | omega | (simp only [List.length_append, List.length_cons, List.length_nil, List.length_map]; omega) | (apply len53b <;> first | assumption | omega) | (exact hg _) | (exact hg _ (by omega)) | (simp_all; done)
  cases h1 : L32a.run n g nb gb m (IntKind.i64.wrap (IntKind.i64.wrap (1 * 2 ^ min (IntKind.u64.wrap (↑n : Int)).toNat 64) - 1)) 0 (r53.v (IntKind.i64.wrap (IntKind.i64.wrap (1 * 2 ^ min (IntKind.u64.wrap (↑n : Int)).toNat 64) - 1))) with
  | e0 h1d0 =>
    exact Ret.of_run1 mix [(avInts IntKind.i64 (r32.v n g nb gb m))] Try.func32 rfl [.ret (AV.sl 1 (r53.v (IntKind.i64.wrap (IntKind.i64.wrap (1 * 2 ^ min (IntKind.u64.wrap (↑n : Int)).toNat 64) - 1))).length fun (a : Nat) => AV.int IntKind.i64 ((r53.v (IntKind.i64.wrap (IntKind.i64.wrap (1 * 2 ^ min (IntKind.u64.wrap (↑n : Int)).toNat 64) - 1))).getD a 0)) ([]), .loop (others 37 [0, 1, 2, 7, 8, 9]) (Exit.exit 0) (L32a.X n g nb gb m (IntKind.i64.wrap (IntKind.i64.wrap (1 * 2 ^ min (IntKind.u64.wrap (↑n : Int)).toNat 64) - 1)) (L32a.O.e0 h1d0)) (L32a.XH n g nb gb m (IntKind.i64.wrap (IntKind.i64.wrap (1 * 2 ^ min (IntKind.u64.wrap (↑n : Int)).toNat 64) - 1)) (L32a.O.e0 h1d0))] (by simp) (by simp) (kmp (by kernel_rfl) (And.intro o0 (And.intro (r53 (IntKind.i64.wrap (IntKind.i64.wrap (1 * 2 ^ min (IntKind.u64.wrap (↑n : Int)).toNat 64) - 1)) o1 o2 ([])) (And.intro (L32a.e0 (n) (g) o3 o4 (nb) (gb) o5 (m) (IntKind.i64.wrap (IntKind.i64.wrap (1 * 2 ^ min (IntKind.u64.wrap (↑n : Int)).toNat 64) - 1)) o1 o6 (0) (r53.v (IntKind.i64.wrap (IntKind.i64.wrap (1 * 2 ^ min (IntKind.u64.wrap (↑n : Int)).toNat 64) - 1))) (And.intro (And.intro (show (0 : Int) ≤ (0 : Int) by first | decide | exact Int.NonNeg.mk _) (show (0 : Int) ≤ (64 : Int) by first | decide | exact Int.NonNeg.mk _)) o7) h1d0 h1) (And.intro (show ((avInts IntKind.i64 h1d0)) = ((avInts IntKind.i64 (r32.v n g nb gb m))) by first | (simp only [r32.v, h1, cond_true, cond_false]; done) | (try unfold r32.v; try simp only [h1, cond_true, cond_false]; try rfl; done) | rfl) trivial))))) h

end Go.Proofs.Ytgmppoappaolkaa

open Go

namespace Go.Proofs.Ytgmppoappaolkaa

set_option linter.unusedSimpArgs false

set_option linter.unusedVariables false

set_option maxHeartbeats 0

set_option maxRecDepth 100000

theorem bd19n {n : Nat} {g : Nat → SD} {k : Int} (h : r19.v n g k = true) : (n : Int) ≤ k := by
  unfold r19.v at h
  by_cases c : (n : Int) > k
  · rw [decide_eq_true c] at h; cases h
  · omega

theorem bd27n {nb : Nat} {gb : Nat → BD} {k : Int} (h : r27.v nb gb k = true) : (nb : Int) ≤ k := by
  unfold r27.v at h
  by_cases c : (nb : Int) > k
  · rw [decide_eq_true c] at h; cases h
  · omega

end Go.Proofs.Ytgmppoappaolkaa

open Go

namespace Go.Proofs.Ytgmppoappaolkaa

set_option linter.unusedVariables false

set_option linter.unusedSimpArgs false

set_option maxRecDepth 100000

theorem bv_nat {a : Nat} (h : a < 64) : BitVec.ofInt 64 (a : Int) = BitVec.ofNat 64 a := by
  apply BitVec.eq_of_toNat_eq
  simp

theorem or_nat {a b : Nat} (ha : a < 64) (hb : b < 64) : IntKind.u64.wrap (((BitVec.ofInt 64 (a : Int) ||| BitVec.ofInt 64 (b : Int)).toNat : Nat) : Int) = ((a ||| b : Nat) : Int) := by
  rw [bv_nat ha, bv_nat hb, BitVec.toNat_or, BitVec.toNat_ofNat, BitVec.toNat_ofNat, Nat.mod_eq_of_lt (by omega), Nat.mod_eq_of_lt (by omega)]
  have : a ||| b < 2 ^ 6 := Nat.or_lt_two_pow (by omega) (by omega)
  exact IntWalk.u64_in _ (by omega)

theorem and_nat {a b : Nat} (ha : a < 64) (hb : b < 64) : IntKind.u64.wrap (((BitVec.ofInt 64 (a : Int) &&& BitVec.ofInt 64 (b : Int)).toNat : Nat) : Int) = ((a &&& b : Nat) : Int) := by
  rw [bv_nat ha, bv_nat hb, BitVec.toNat_and, BitVec.toNat_ofNat, BitVec.toNat_ofNat, Nat.mod_eq_of_lt (by omega), Nat.mod_eq_of_lt (by omega)]
  have : a &&& b < 2 ^ 6 := Nat.and_lt_two_pow _ (by omega)
  exact IntWalk.u64_in _ (by omega)

theorem bit_nat {i : Nat} (h : i < 6) : IntKind.u64.wrap (1 * 2 ^ min i 64) = ((2 ^ i : Nat) : Int) := by
  have : i = 0 ∨ i = 1 ∨ i = 2 ∨ i = 3 ∨ i = 4 ∨ i = 5 := by omega
  rcases this with rfl | rfl | rfl | rfl | rfl | rfl <;> rfl

theorem pow_lt6 {i : Nat} (h : i < 6) : 2 ^ i < 64 := by
  have : i = 0 ∨ i = 1 ∨ i = 2 ∨ i = 3 ∨ i = 4 ∨ i = 5 := by omega
  rcases this with rfl | rfl | rfl | rfl | rfl | rfl <;> decide

theorem add_bit {c i : Nat} (hc : c < 64) (hi : i < 6) : IntKind.u64.wrap (((BitVec.ofInt 64 (c : Int) ||| BitVec.ofInt 64 (IntKind.u64.wrap (1 * 2 ^ min i 64))).toNat : Nat) : Int) = ((c ||| 2 ^ i : Nat) : Int) ∧ c ||| 2 ^ i < 64 := by
  rw [bit_nat hi]
  exact ⟨or_nat hc (pow_lt6 hi), Nat.or_lt_two_pow (n := 6) (by omega) (pow_lt6 hi)⟩

/-- The sets in the order of the search. -/
def comb (n : Nat) : Nat → Nat → Nat → List Nat
  | 0, _, ch => [ch]
  | k + 1, u, ch => (List.range' u (n - k - u)).flatMap fun i => comb n k (i + 1) (ch ||| 2 ^ i)

theorem find_loop {O : Type} {N : Nat → Int → O} {hit : Nat → O} {miss : O} {F : Nat → Option Nat} (lim : Nat)
    (h1 : ∀ q (i : Nat), i < lim → N (q + 1) (i : Int) = (match F i with | some s => hit s | none => N q ((i + 1 : Nat) : Int)))
    (h2 : ∀ q (i : Nat), lim ≤ i → i ≤ 70 → N (q + 1) (i : Int) = miss) (hl : lim ≤ 70) :
    ∀ q (i : Nat), i ≤ 70 → lim - i < q → N q (i : Int) = (match (List.range' i (lim - i)).findSome? F with | some s => hit s | none => miss) := by
  intro q
  induction q with
  | zero => intro i _ h; omega
  | succ q ih =>
    intro i hi hq
    by_cases h : i < lim
    · rw [h1 q i h, show lim - i = (lim - (i + 1)) + 1 by omega, List.range'_succ]
      simp only [List.findSome?_cons]
      cases hF : F i with
      | some s => rfl
      | none => exact ih (i + 1) (by omega) (by omega)
    · rw [h2 q i (by omega) hi, show lim - i = 0 by omega]
      rfl

section

variable {n K : Nat} {S : Nat → Int}

/-- Whether a set of stands is enough. -/
noncomputable def eN (K : Nat) (S : Nat → Int) (c : Nat) : Bool := r52_0.v1 K S (c : Int)

theorem run_1 (hn : n ≤ 6) {c : Nat} (hc : c < 64) (u : Nat) (hu : u ≤ 70) : r52_1.v1 n K S u c = ((comb n 1 u c).find? (eN K S)).isSome ∧ r52_1.v0 n K S u c = (((comb n 1 u c).find? (eN K S)).getD 0 : Nat) := by
  have e := find_loop (N := L52_1a.N n K S c) (hit := fun s => .e0 (s : Int)) (miss := .e1) (F := fun i => (comb n 0 (i + 1) (c ||| 2 ^ i)).find? (eN K S)) (n - 0) (fun q i hi => by
    obtain ⟨a1, a2⟩ := add_bit hc (show i < 6 by omega)
    simp only [L52_1a.N, Int.toNat_natCast, a1]
    rw [IntWalk.i64_in ((i : Int) + 1) (by omega), decide_eq_true (show (i : Int) + 1 ≤ (n : Int) by omega)]
    simp only [cond_true, comb, List.find?_cons, List.find?_nil]
    show (bif eN K S (c ||| 2 ^ i) then _ else _) = _
    cases eN K S (c ||| 2 ^ i) <;> rfl) (fun q i hi h7 => by
    simp only [L52_1a.N]
    rw [IntWalk.i64_in ((i : Int) + 1) (by omega), decide_eq_false (show ¬ (i : Int) + 1 ≤ (n : Int) by omega)]
    rfl) (by omega) (((71 : Int) - u).toNat + 1) u hu (by omega)
  have e' : L52_1a.run n K S c u = (match (comb n 1 u c).find? (eN K S) with | some s => .e0 (s : Int) | none => .e1) := by
    rw [show (comb n 1 u c).find? (eN K S) = (List.range' u (n - 0 - u)).findSome? (fun i => (comb n 0 (i + 1) (c ||| 2 ^ i)).find? (eN K S)) from List.find?_flatMap]
    exact e
  unfold r52_1.v1 r52_1.v0
  rw [e']
  cases (comb n 1 u c).find? (eN K S) <;> exact ⟨rfl, rfl⟩

theorem run_2 (hn : n ≤ 6) {c : Nat} (hc : c < 64) (u : Nat) (hu : u ≤ 70) : r52_2.v1 n K S u c = ((comb n 2 u c).find? (eN K S)).isSome ∧ r52_2.v0 n K S u c = (((comb n 2 u c).find? (eN K S)).getD 0 : Nat) := by
  have e := find_loop (N := L52_2a.N n K S c) (hit := fun s => .e0 (s : Int)) (miss := .e1) (F := fun i => (comb n 1 (i + 1) (c ||| 2 ^ i)).find? (eN K S)) (n - 1) (fun q i hi => by
    obtain ⟨a1, a2⟩ := add_bit hc (show i < 6 by omega)
    obtain ⟨b1, b2⟩ := run_1 (K := K) (S := S) hn a2 (i + 1) (by omega)
    simp only [L52_2a.N, Int.toNat_natCast, a1]
    rw [IntWalk.i64_in ((i : Int) + 2) (by omega), IntWalk.i64_in ((i : Int) + 1) (by omega), decide_eq_true (show (i : Int) + 2 ≤ (n : Int) by omega), show (i : Int) + 1 = ((i + 1 : Nat) : Int) by omega, b1, b2]
    simp only [cond_true]
    cases (comb n 1 (i + 1) (c ||| 2 ^ i)).find? (eN K S) <;> rfl) (fun q i hi h7 => by
    simp only [L52_2a.N]
    rw [IntWalk.i64_in ((i : Int) + 2) (by omega), decide_eq_false (show ¬ (i : Int) + 2 ≤ (n : Int) by omega)]
    rfl) (by omega) (((71 : Int) - u).toNat + 1) u hu (by omega)
  have e' : L52_2a.run n K S c u = (match (comb n 2 u c).find? (eN K S) with | some s => .e0 (s : Int) | none => .e1) := by
    rw [show (comb n 2 u c).find? (eN K S) = (List.range' u (n - 1 - u)).findSome? (fun i => (comb n 1 (i + 1) (c ||| 2 ^ i)).find? (eN K S)) from List.find?_flatMap]
    exact e
  unfold r52_2.v1 r52_2.v0
  rw [e']
  cases (comb n 2 u c).find? (eN K S) <;> exact ⟨rfl, rfl⟩

theorem run_3 (hn : n ≤ 6) {c : Nat} (hc : c < 64) (u : Nat) (hu : u ≤ 70) : r52_3.v1 n K S u c = ((comb n 3 u c).find? (eN K S)).isSome ∧ r52_3.v0 n K S u c = (((comb n 3 u c).find? (eN K S)).getD 0 : Nat) := by
  have e := find_loop (N := L52_3a.N n K S c) (hit := fun s => .e0 (s : Int)) (miss := .e1) (F := fun i => (comb n 2 (i + 1) (c ||| 2 ^ i)).find? (eN K S)) (n - 2) (fun q i hi => by
    obtain ⟨a1, a2⟩ := add_bit hc (show i < 6 by omega)
    obtain ⟨b1, b2⟩ := run_2 (K := K) (S := S) hn a2 (i + 1) (by omega)
    simp only [L52_3a.N, Int.toNat_natCast, a1]
    rw [IntWalk.i64_in ((i : Int) + 3) (by omega), IntWalk.i64_in ((i : Int) + 1) (by omega), decide_eq_true (show (i : Int) + 3 ≤ (n : Int) by omega), show (i : Int) + 1 = ((i + 1 : Nat) : Int) by omega, b1, b2]
    simp only [cond_true]
    cases (comb n 2 (i + 1) (c ||| 2 ^ i)).find? (eN K S) <;> rfl) (fun q i hi h7 => by
    simp only [L52_3a.N]
    rw [IntWalk.i64_in ((i : Int) + 3) (by omega), decide_eq_false (show ¬ (i : Int) + 3 ≤ (n : Int) by omega)]
    rfl) (by omega) (((71 : Int) - u).toNat + 1) u hu (by omega)
  have e' : L52_3a.run n K S c u = (match (comb n 3 u c).find? (eN K S) with | some s => .e0 (s : Int) | none => .e1) := by
    rw [show (comb n 3 u c).find? (eN K S) = (List.range' u (n - 2 - u)).findSome? (fun i => (comb n 2 (i + 1) (c ||| 2 ^ i)).find? (eN K S)) from List.find?_flatMap]
    exact e
  unfold r52_3.v1 r52_3.v0
  rw [e']
  cases (comb n 3 u c).find? (eN K S) <;> exact ⟨rfl, rfl⟩

theorem run_4 (hn : n ≤ 6) {c : Nat} (hc : c < 64) (u : Nat) (hu : u ≤ 70) : r52_4.v1 n K S u c = ((comb n 4 u c).find? (eN K S)).isSome ∧ r52_4.v0 n K S u c = (((comb n 4 u c).find? (eN K S)).getD 0 : Nat) := by
  have e := find_loop (N := L52_4a.N n K S c) (hit := fun s => .e0 (s : Int)) (miss := .e1) (F := fun i => (comb n 3 (i + 1) (c ||| 2 ^ i)).find? (eN K S)) (n - 3) (fun q i hi => by
    obtain ⟨a1, a2⟩ := add_bit hc (show i < 6 by omega)
    obtain ⟨b1, b2⟩ := run_3 (K := K) (S := S) hn a2 (i + 1) (by omega)
    simp only [L52_4a.N, Int.toNat_natCast, a1]
    rw [IntWalk.i64_in ((i : Int) + 4) (by omega), IntWalk.i64_in ((i : Int) + 1) (by omega), decide_eq_true (show (i : Int) + 4 ≤ (n : Int) by omega), show (i : Int) + 1 = ((i + 1 : Nat) : Int) by omega, b1, b2]
    simp only [cond_true]
    cases (comb n 3 (i + 1) (c ||| 2 ^ i)).find? (eN K S) <;> rfl) (fun q i hi h7 => by
    simp only [L52_4a.N]
    rw [IntWalk.i64_in ((i : Int) + 4) (by omega), decide_eq_false (show ¬ (i : Int) + 4 ≤ (n : Int) by omega)]
    rfl) (by omega) (((71 : Int) - u).toNat + 1) u hu (by omega)
  have e' : L52_4a.run n K S c u = (match (comb n 4 u c).find? (eN K S) with | some s => .e0 (s : Int) | none => .e1) := by
    rw [show (comb n 4 u c).find? (eN K S) = (List.range' u (n - 3 - u)).findSome? (fun i => (comb n 3 (i + 1) (c ||| 2 ^ i)).find? (eN K S)) from List.find?_flatMap]
    exact e
  unfold r52_4.v1 r52_4.v0
  rw [e']
  cases (comb n 4 u c).find? (eN K S) <;> exact ⟨rfl, rfl⟩

theorem run_5 (hn : n ≤ 6) {c : Nat} (hc : c < 64) (u : Nat) (hu : u ≤ 70) : r52_5.v1 n K S u c = ((comb n 5 u c).find? (eN K S)).isSome ∧ r52_5.v0 n K S u c = (((comb n 5 u c).find? (eN K S)).getD 0 : Nat) := by
  have e := find_loop (N := L52_5a.N n K S c) (hit := fun s => .e0 (s : Int)) (miss := .e1) (F := fun i => (comb n 4 (i + 1) (c ||| 2 ^ i)).find? (eN K S)) (n - 4) (fun q i hi => by
    obtain ⟨a1, a2⟩ := add_bit hc (show i < 6 by omega)
    obtain ⟨b1, b2⟩ := run_4 (K := K) (S := S) hn a2 (i + 1) (by omega)
    simp only [L52_5a.N, Int.toNat_natCast, a1]
    rw [IntWalk.i64_in ((i : Int) + 5) (by omega), IntWalk.i64_in ((i : Int) + 1) (by omega), decide_eq_true (show (i : Int) + 5 ≤ (n : Int) by omega), show (i : Int) + 1 = ((i + 1 : Nat) : Int) by omega, b1, b2]
    simp only [cond_true]
    cases (comb n 4 (i + 1) (c ||| 2 ^ i)).find? (eN K S) <;> rfl) (fun q i hi h7 => by
    simp only [L52_5a.N]
    rw [IntWalk.i64_in ((i : Int) + 5) (by omega), decide_eq_false (show ¬ (i : Int) + 5 ≤ (n : Int) by omega)]
    rfl) (by omega) (((71 : Int) - u).toNat + 1) u hu (by omega)
  have e' : L52_5a.run n K S c u = (match (comb n 5 u c).find? (eN K S) with | some s => .e0 (s : Int) | none => .e1) := by
    rw [show (comb n 5 u c).find? (eN K S) = (List.range' u (n - 4 - u)).findSome? (fun i => (comb n 4 (i + 1) (c ||| 2 ^ i)).find? (eN K S)) from List.find?_flatMap]
    exact e
  unfold r52_5.v1 r52_5.v0
  rw [e']
  cases (comb n 5 u c).find? (eN K S) <;> exact ⟨rfl, rfl⟩

theorem run_6 (hn : n ≤ 6) {c : Nat} (hc : c < 64) (u : Nat) (hu : u ≤ 70) : r52_6.v1 n K S u c = ((comb n 6 u c).find? (eN K S)).isSome ∧ r52_6.v0 n K S u c = (((comb n 6 u c).find? (eN K S)).getD 0 : Nat) := by
  have e := find_loop (N := L52_6a.N n K S c) (hit := fun s => .e0 (s : Int)) (miss := .e1) (F := fun i => (comb n 5 (i + 1) (c ||| 2 ^ i)).find? (eN K S)) (n - 5) (fun q i hi => by
    obtain ⟨a1, a2⟩ := add_bit hc (show i < 6 by omega)
    obtain ⟨b1, b2⟩ := run_5 (K := K) (S := S) hn a2 (i + 1) (by omega)
    simp only [L52_6a.N, Int.toNat_natCast, a1]
    rw [IntWalk.i64_in ((i : Int) + 6) (by omega), IntWalk.i64_in ((i : Int) + 1) (by omega), decide_eq_true (show (i : Int) + 6 ≤ (n : Int) by omega), show (i : Int) + 1 = ((i + 1 : Nat) : Int) by omega, b1, b2]
    simp only [cond_true]
    cases (comb n 5 (i + 1) (c ||| 2 ^ i)).find? (eN K S) <;> rfl) (fun q i hi h7 => by
    simp only [L52_6a.N]
    rw [IntWalk.i64_in ((i : Int) + 6) (by omega), decide_eq_false (show ¬ (i : Int) + 6 ≤ (n : Int) by omega)]
    rfl) (by omega) (((71 : Int) - u).toNat + 1) u hu (by omega)
  have e' : L52_6a.run n K S c u = (match (comb n 6 u c).find? (eN K S) with | some s => .e0 (s : Int) | none => .e1) := by
    rw [show (comb n 6 u c).find? (eN K S) = (List.range' u (n - 5 - u)).findSome? (fun i => (comb n 5 (i + 1) (c ||| 2 ^ i)).find? (eN K S)) from List.find?_flatMap]
    exact e
  unfold r52_6.v1 r52_6.v0
  rw [e']
  cases (comb n 6 u c).find? (eN K S) <;> exact ⟨rfl, rfl⟩

theorem search_eq6 (hn : n ≤ 6) {q : Nat} (hq : q ≤ 6) : sB n K S q = ((comb n q 0 0).find? (eN K S)).isSome ∧ sV n K S q = (((comb n q 0 0).find? (eN K S)).getD 0 : Nat) := by
  have : q = 0 ∨ q = 1 ∨ q = 2 ∨ q = 3 ∨ q = 4 ∨ q = 5 ∨ q = 6 := by omega
  rcases this with rfl | rfl | rfl | rfl | rfl | rfl | rfl
  · have e : (comb n 0 0 0).find? (eN K S) = if eN K S 0 then some 0 else none := by simp only [comb, List.find?_cons, List.find?_nil]; cases eN K S 0 <;> rfl
    rw [e]
    show eN K S 0 = _ ∧ (0 : Int) = _
    cases eN K S 0 <;> exact ⟨rfl, rfl⟩
  · exact run_1 hn (c := 0) (by decide) 0 (by omega)
  · exact run_2 hn (c := 0) (by decide) 0 (by omega)
  · exact run_3 hn (c := 0) (by decide) 0 (by omega)
  · exact run_4 hn (c := 0) (by decide) 0 (by omega)
  · exact run_5 hn (c := 0) (by decide) 0 (by omega)
  · exact run_6 hn (c := 0) (by decide) 0 (by omega)

end

def mk (p : Nat → Bool) : Nat → Nat
  | 0 => 0
  | n + 1 => if p n then mk p n ||| 2 ^ n else mk p n

theorem mk_bit (p : Nat → Bool) : ∀ n k, (mk p n).testBit k = (decide (k < n) && p k) := by
  intro n
  induction n with
  | zero => intro k; simp [mk]
  | succ n ih =>
    intro k
    simp only [mk]
    by_cases hp : p n
    · rw [if_pos hp, Nat.testBit_or, ih k, Nat.testBit_two_pow]
      by_cases e : n = k
      · subst e; simp [hp]
      · by_cases h : k < n
        · simp [h, e, show k < n + 1 by omega]
        · simp [h, e, show ¬ k < n + 1 by omega]
    · rw [if_neg hp, ih k]
      by_cases e : n = k
      · subst e; simp [hp]
      · by_cases h : k < n
        · simp [h, show k < n + 1 by omega]
        · simp [h, show ¬ k < n + 1 by omega]

theorem mk_lt (p : Nat → Bool) : ∀ n, n ≤ 6 → mk p n < 2 ^ n := by
  intro n
  induction n with
  | zero => intro _; exact Nat.zero_lt_one
  | succ n ih =>
    intro hn
    have h := ih (by omega)
    have h2 : mk p n < 2 ^ (n + 1) := by rw [Nat.pow_succ]; omega
    simp only [mk]
    split
    · exact Nat.or_lt_two_pow h2 (by rw [Nat.pow_succ]; have := Nat.two_pow_pos n; omega)
    · exact h2

theorem mk_zero (p : Nat → Bool) (n : Nat) : (mk p n == 0) = !anyN n p := by
  cases h : anyN n p with
  | false =>
    have h := anyN_false.1 h
    have : mk p n = 0 := by
      apply Nat.eq_of_testBit_eq
      intro k
      rw [mk_bit, Nat.zero_testBit]
      by_cases hk : k < n
      · rw [h k hk]; simp
      · simp [hk]
    rw [this]; rfl
  | true =>
    obtain ⟨k, hk, hp⟩ := anyN_true.1 h
    have : mk p n ≠ 0 := fun e => by
      have := mk_bit p n k
      rw [e, Nat.zero_testBit, hp] at this
      simp [hk] at this
    exact beq_eq_false_iff_ne.2 this

theorem mk_and (p : Nat → Bool) (n s : Nat) : (mk p n &&& s == 0) = !anyN n fun k => p k && s.testBit k := by
  cases h : anyN n fun k => p k && s.testBit k with
  | false =>
    have h := anyN_false.1 h
    have : mk p n &&& s = 0 := by
      apply Nat.eq_of_testBit_eq
      intro k
      rw [Nat.testBit_and, mk_bit, Nat.zero_testBit]
      by_cases hk : k < n
      · have := h k hk
        simp only [hk, decide_true, Bool.true_and]
        exact this
      · simp [hk]
    rw [this]; rfl
  | true =>
    obtain ⟨k, hk, hp⟩ := anyN_true.1 h
    have : mk p n &&& s ≠ 0 := fun e => by
      have h2 : (mk p n &&& s).testBit k = true := by
        rw [Nat.testBit_and, mk_bit]
        simp only [hk, decide_true, Bool.true_and]
        exact hp
      rw [e, Nat.zero_testBit] at h2; cases h2
    exact beq_eq_false_iff_ne.2 this

end Go.Proofs.Ytgmppoappaolkaa

open Go

namespace Go.Proofs.Ytgmppoappaolkaa

set_option linter.unusedVariables false

set_option linter.unusedSimpArgs false

set_option maxRecDepth 100000

variable {n nb : Nat} {g : Nat → SD} {gb : Nat → BD} {m : Int}

/-- Whether a stand lifts a block. -/
noncomputable def lf (g : Nat → SD) (gb : Nat → BD) (m : Int) (i k : Nat) : Bool := decide (r46.v (g k) (gb i).a (gb i).b (gb i).c (gb i).d (gb i).e (gb i).f m ≥ 0)

theorem lf_eq (hst : ∀ i, i < n → StOk (g i)) (hbb : ∀ i, i < nb → (r36.v (gb i).a (gb i).b (gb i).c (gb i).d (gb i).e (gb i).f == 0) = true) (hd : r37.v m = true) {i k : Nat} (hi : i < nb) (hk : k < n) :
    r26.v (g k) (gb i).a (gb i).b (gb i).c (gb i).d (gb i).e (gb i).f m = lf g gb m i k := (lift_eq (hst k hk) (box_ok (hbb i hi)) hd).symm

theorem L48b_run (hn : n ≤ 6) (i : Nat) : ∀ q k, k ≤ n → n - k < q → L48ab.N n g gb m (i : Int) q ((mk (lf g gb m i) k : Nat) : Int) (k : Int) = .e0 ((mk (lf g gb m i) n : Nat) : Int) := by
  intro q
  induction q with
  | zero => intro k _ h; omega
  | succ q ih =>
    intro k hk hq
    simp only [L48ab.N, Int.toNat_natCast]
    by_cases h : k < n
    · rw [decide_eq_true (show (k : Int) < (n : Int) by omega), wrap_succ (n := n) (by omega) h]
      simp only [cond_true]
      have e : decide (r46.v (g k) (gb i).a (gb i).b (gb i).c (gb i).d (gb i).e (gb i).f m ≥ 0) = lf g gb m i k := rfl
      rw [e]
      have hm := mk_lt (lf g gb m i) k (by omega)
      have h64 : mk (lf g gb m i) k < 64 := Nat.lt_trans hm (pow_lt6 (by omega))
      obtain ⟨a1, _⟩ := add_bit (c := mk (lf g gb m i) k) (i := k) h64 (by omega)
      cases hl : lf g gb m i k with
      | true =>
        simp only [cond_true, a1]
        have e2 : mk (lf g gb m i) (k + 1) = mk (lf g gb m i) k ||| 2 ^ k := by simp only [mk]; rw [if_pos hl]
        rw [← e2]
        exact ih (k + 1) h (by omega)
      | false =>
        simp only [cond_false]
        have e2 : mk (lf g gb m i) (k + 1) = mk (lf g gb m i) k := by simp only [mk]; rw [if_neg (by rw [hl]; simp)]
        have := ih (k + 1) h (by omega)
        rw [e2] at this
        exact this
    · obtain rfl : k = n := by omega
      rw [decide_eq_false (by omega)]; rfl

theorem L48_run (hn : n ≤ 6) (hb : nb ≤ 256) : ∀ (q a v : Nat) (al : List Int), a ≤ nb → nb - a < q → ∃ v', L48a.N n g nb gb m q v al (a : Int) = .e0 v' (al ++ (List.range' a (nb - a)).map fun i => ((mk (lf g gb m i) n : Nat) : Int)) := by
  intro q
  induction q with
  | zero => intro a v al _ h; omega
  | succ q ih =>
    intro a v al ha hq
    simp only [L48a.N]
    by_cases h : a < nb
    · have e : L48ab.run n g gb m (a : Int) 0 0 = .e0 ((mk (lf g gb m a) n : Nat) : Int) := by
        have := L48b_run (g := g) (gb := gb) (m := m) hn a (((n : Int) - 0).toNat + 1) 0 (Nat.zero_le _) (by omega)
        exact this
      rw [decide_eq_true (show (a : Int) < nb by omega), wrap_succ (n := nb) (by omega) h, e, show nb - a = (nb - (a + 1)) + 1 by omega, List.range'_succ]
      simp only [cond_true]
      obtain ⟨v', e2⟩ := ih (a + 1) (v + 1) (al ++ [((mk (lf g gb m a) n : Nat) : Int)]) h (by omega)
      exact ⟨v', by rw [e2, List.append_assoc]; rfl⟩
    · rw [decide_eq_false (by omega), show nb - a = 0 by omega]
      exact ⟨v, by simp⟩

theorem r48_eq (hn : n ≤ 6) (hb : nb ≤ 256) : r48.v n g nb gb m = (List.range' 0 nb).map fun i => ((mk (lf g gb m i) n : Nat) : Int) := by
  obtain ⟨v', e⟩ := L48_run (g := g) (gb := gb) (m := m) hn hb (((nb : Int) - 0).toNat + 1) 0 0 [] (Nat.zero_le _) (by omega)
  have e' : L48a.run n g nb gb m 0 [] 0 = .e0 v' ((List.range' 0 nb).map fun i => ((mk (lf g gb m i) n : Nat) : Int)) := by simpa [L48a.run] using e
  unfold r48.v
  rw [e']

theorem r48_get (hn : n ≤ 6) (hb : nb ≤ 256) {i : Nat} (hi : i < nb) : (r48.v n g nb gb m).getD i 0 = ((mk (lf g gb m i) n : Nat) : Int) := by
  rw [r48_eq hn hb]
  simp [List.getD_eq_getElem?_getD, List.getElem?_range', hi]

/-- Each block that is lifted at all is lifted by one of the set. -/
noncomputable def cov (n nb : Nat) (g : Nat → SD) (gb : Nat → BD) (m : Int) (s : Nat) : Bool := !anyN nb fun i => anyN n (lf g gb m i) && !anyN n fun k => lf g gb m i k && s.testBit k

theorem eN_eq (hn : n ≤ 6) (hb : nb ≤ 256) {s : Nat} (hs : s < 64) : eN nb (fun i => (r48.v n g nb gb m).getD i 0) s = cov n nb g gb m s := by
  have step : ∀ i, i < nb → r51.v ((r48.v n g nb gb m).getD i 0) (s : Int) = (anyN n (lf g gb m i) && !anyN n fun k => lf g gb m i k && s.testBit k) := fun i hi => by
    have h64 : mk (lf g gb m i) n < 64 := Nat.lt_of_lt_of_le (mk_lt _ n hn) (by have := pow_bd (n := n) (by omega); omega)
    rw [r48_get hn hb hi]
    unfold r51.v
    rw [and_nat h64 hs]
    have z1 := mk_zero (lf g gb m i) n
    have z2 := mk_and (lf g gb m i) n s
    have c1 : (((mk (lf g gb m i) n : Nat) : Int) == 0) = (mk (lf g gb m i) n == 0) := by
      by_cases c : mk (lf g gb m i) n = 0
      · rw [c]; rfl
      · rw [show (mk (lf g gb m i) n == 0) = false from beq_eq_false_iff_ne.2 c]; exact beq_eq_false_iff_ne.2 (by omega)
    have c2 : (((mk (lf g gb m i) n &&& s : Nat) : Int) == 0) = (mk (lf g gb m i) n &&& s == 0) := by
      by_cases c : mk (lf g gb m i) n &&& s = 0
      · rw [c]; rfl
      · rw [show (mk (lf g gb m i) n &&& s == 0) = false from beq_eq_false_iff_ne.2 c]; exact beq_eq_false_iff_ne.2 (by omega)
    rw [c1, c2, z1, z2]
    cases anyN n (lf g gb m i) <;> cases anyN n (fun k => lf g gb m i k && s.testBit k) <;> rfl
  have h1 := search_eq (n := nb) (fun i => r51.v ((r48.v n g nb gb m).getD i 0) (s : Int)) (fun i => L70a.O.e0 (i : Int)) .e1 (N := L70a.N nb (fun i => (r48.v n g nb gb m).getD i 0) (s : Int)) (fun k' i h => by
    simp only [L70a.N, wrap_succ (n := nb) (by omega) h, Int.toNat_natCast]
    rw [decide_eq_true (show (i : Int) < nb by omega)]
    rfl) (fun k => by simp [L70a.N]) (nb + 1) 0 (Nat.zero_le _) (by omega)
  have e1 : L70a.run nb (fun i => (r48.v n g nb gb m).getD i 0) (s : Int) 0 = srch (fun i => r51.v ((r48.v n g nb gb m).getD i 0) (s : Int)) (fun i => L70a.O.e0 (i : Int)) .e1 0 nb := by simpa [L70a.run] using h1
  unfold eN r52_0.v1 r49.v r50.v r70.v cov
  rw [e1, ← anyN_congr step]
  rcases srch_cases (fun i => r51.v ((r48.v n g nb gb m).getD i 0) (s : Int)) (fun i => L70a.O.e0 (i : Int)) .e1 nb 0 with ⟨a1, a2⟩ | ⟨i, a1, a2, a3, a4, a5⟩
  · rw [a2, anyN_false.2 fun i hi => a1 i (Nat.zero_le _) (by omega)]; rfl
  · rw [a5, anyN_true.2 ⟨i, by omega, a3⟩]
    show (!decide ((i : Int) ≥ 0)) = !true
    rw [decide_eq_true (by omega)]

theorem shift_all : ((List.range 64).all fun s => (List.range 6).all fun k => ((((s : Int).fdiv (2 ^ min (IntKind.u64.wrap (k : Int)).toNat 64)).tmod 2 == 1) == s.testBit k) && ((IntKind.u64.wrap (((BitVec.ofInt 64 ((s : Int).fdiv (2 ^ min k 64)) &&& BitVec.ofInt 64 1).toNat : Nat) : Int) == 1) == s.testBit k)) = true := by kernel_rfl

theorem shift_bit {s k : Nat} (hs : s < 64) (hk : k < 6) : (((s : Int).fdiv (2 ^ min (IntKind.u64.wrap (k : Int)).toNat 64)).tmod 2 == 1) = s.testBit k ∧ (IntKind.u64.wrap (((BitVec.ofInt 64 ((s : Int).fdiv (2 ^ min k 64)) &&& BitVec.ofInt 64 1).toNat : Nat) : Int) == 1) = s.testBit k := by
  have h1 := List.all_eq_true.1 shift_all s (List.mem_range.2 hs)
  have h2 := List.all_eq_true.1 h1 k (List.mem_range.2 hk)
  simp only [Bool.and_eq_true] at h2
  exact ⟨eq_of_beq h2.1, eq_of_beq h2.2⟩

theorem L55b_run (hn : n ≤ 6) (hst : ∀ i, i < n → StOk (g i)) (hbb : ∀ i, i < nb → (r36.v (gb i).a (gb i).b (gb i).c (gb i).d (gb i).e (gb i).f == 0) = true) (hd : r37.v m = true) {s i : Nat} (hs : s < 64) (hi : i < nb) : ∀ q k b1 b2, k ≤ n → n - k < q →
    L55ab.N n g gb m (s : Int) (i : Int) q b1 b2 (k : Int) = .e0 (b1 || (List.range' k (n - k)).any (lf g gb m i)) (b2 || (List.range' k (n - k)).any fun k => lf g gb m i k && s.testBit k) := by
  intro q
  induction q with
  | zero => intro k b1 b2 _ h; omega
  | succ q ih =>
    intro k b1 b2 hk hq
    simp only [L55ab.N, Int.toNat_natCast]
    by_cases h : k < n
    · rw [decide_eq_true (show (k : Int) < (n : Int) by omega), wrap_succ (n := n) (by omega) h, lf_eq hst hbb hd hi h, (shift_bit hs (show k < 6 by omega)).1, show n - k = (n - (k + 1)) + 1 by omega, List.range'_succ]
      simp only [cond_true, List.any_cons]
      cases hl : lf g gb m i k with
      | false =>
        simp only [cond_false]
        rw [ih (k + 1) b1 b2 h (by omega)]
        simp
      | true =>
        simp only [cond_true]
        cases b2 with
        | true => simp only [cond_true]; rw [ih (k + 1) true true h (by omega)]; simp
        | false => simp only [cond_false]; rw [ih (k + 1) true _ h (by omega)]; simp
    · rw [decide_eq_false (by omega), show n - k = 0 by omega]; simp

theorem r55_eq (hn : n ≤ 6) (hb : nb ≤ 256) (hst : ∀ i, i < n → StOk (g i)) (hbb : ∀ i, i < nb → (r36.v (gb i).a (gb i).b (gb i).c (gb i).d (gb i).e (gb i).f == 0) = true) (hd : r37.v m = true) {s : Nat} (hs : s < 64) : r55.v n g nb gb m s = cov n nb g gb m s := by
  have h1 := search_eq (n := nb) (fun i => anyN n (lf g gb m i) && !anyN n fun k => lf g gb m i k && s.testBit k) (fun _ => L55a.O.e0) .e1 (N := L55a.N n g nb gb m (s : Int)) (fun k' i h => by
    have e : L55ab.run n g gb m (s : Int) (i : Int) false false 0 = .e0 (anyN n (lf g gb m i)) (anyN n fun k => lf g gb m i k && s.testBit k) := by
      have := L55b_run hn hst hbb hd hs h (((n : Int) - 0).toNat + 1) 0 false false (Nat.zero_le _) (by omega)
      unfold anyN
      rw [List.range_eq_range']
      simpa [L55ab.run] using this
    simp only [L55a.N, wrap_succ (n := nb) (by omega) h, e]
    rw [decide_eq_true (show (i : Int) < nb by omega)]
    cases anyN n (lf g gb m i) <;> cases anyN n (fun k => lf g gb m i k && s.testBit k) <;> rfl) (fun k => by simp [L55a.N]) (nb + 1) 0 (Nat.zero_le _) (by omega)
  rw [srch_any] at h1
  have e1 : L55a.run n g nb gb m (s : Int) 0 = bif anyN nb (fun i => anyN n (lf g gb m i) && !anyN n fun k => lf g gb m i k && s.testBit k) then .e0 else .e1 := by simpa [L55a.run] using h1
  unfold r55.v cov
  rw [e1]
  cases anyN nb (fun i => anyN n (lf g gb m i) && !anyN n fun k => lf g gb m i k && s.testBit k) <;> rfl

end Go.Proofs.Ytgmppoappaolkaa

open Go

namespace Go.Proofs.Ytgmppoappaolkaa

set_option linter.unusedVariables false

set_option linter.unusedSimpArgs false

set_option maxRecDepth 100000

set_option maxHeartbeats 0

def enum (n : Nat) : List Nat := (List.range' 0 (n + 1)).flatMap fun q => comb n q 0 0

def pos (n s : Nat) : Nat := (enum n).idxOf s

def idxL (n s : Nat) : List Int := ((List.range' 0 n).filter fun k => s.testBit k).map fun (k : Nat) => Int.ofNat k

noncomputable def ltI (a b : Nat) : Bool := r54.v (r53.v (a : Int)).length (fun i => (r53.v (a : Int)).getD i 0) (r53.v (b : Int)).length (fun i => (r53.v (b : Int)).getD i 0)

theorem all_in : ((List.range 7).all fun n => (List.range (2 ^ n)).all fun s => (enum n).contains s) = true := by kernel_rfl

theorem all_lt : ((List.range 7).all fun n => (enum n).all fun s => Nat.blt s (2 ^ n)) = true := by kernel_rfl

theorem all_idx : ((List.range 7).all fun n => (List.range (2 ^ n)).all fun s => r53.v (s : Int) == idxL n s) = true := by kernel_rfl

theorem all_ord : ((List.range 7).all fun n => (List.range (2 ^ n)).all fun a => (List.range (2 ^ n)).all fun b => ltI a b == Nat.blt (pos n a) (pos n b)) = true := by kernel_rfl

end Go.Proofs.Ytgmppoappaolkaa

open Go

namespace Go.Proofs.Ytgmppoappaolkaa

set_option linter.unusedVariables false

set_option linter.unusedSimpArgs false

set_option maxRecDepth 100000

variable {n nb : Nat} {g : Nat → SD} {gb : Nat → BD} {m : Int}

theorem in_enum (hn : n ≤ 6) {s : Nat} (hs : s < 2 ^ n) : s ∈ enum n := by
  have h1 := List.all_eq_true.1 all_in n (List.mem_range.2 (by omega))
  have h2 := List.all_eq_true.1 h1 s (List.mem_range.2 hs)
  simpa using h2

theorem lt_enum (hn : n ≤ 6) {s : Nat} (hs : s ∈ enum n) : s < 2 ^ n := by
  have h1 := List.all_eq_true.1 all_lt n (List.mem_range.2 (by omega))
  have h2 := List.all_eq_true.1 h1 s hs
  simpa [Nat.blt_eq] using h2

theorem idx_eq (hn : n ≤ 6) {s : Nat} (hs : s < 2 ^ n) : r53.v (s : Int) = idxL n s := by
  have h1 := List.all_eq_true.1 all_idx n (List.mem_range.2 (by omega))
  have h2 := List.all_eq_true.1 h1 s (List.mem_range.2 hs)
  exact eq_of_beq h2

theorem ord_eq (hn : n ≤ 6) {a b : Nat} (ha : a < 2 ^ n) (hb : b < 2 ^ n) : ltI a b = decide (pos n a < pos n b) := by
  have h1 := List.all_eq_true.1 all_ord n (List.mem_range.2 (by omega))
  have h2 := List.all_eq_true.1 h1 a (List.mem_range.2 ha)
  have h3 := List.all_eq_true.1 h2 b (List.mem_range.2 hb)
  rw [eq_of_beq h3]
  by_cases c : pos n a < pos n b
  · rw [decide_eq_true c]; exact (Nat.blt_eq (x := pos n a) (y := pos n b)) ▸ c
  · rw [decide_eq_false c]
    cases h : Nat.blt (pos n a) (pos n b) with
    | false => rfl
    | true => exact (c ((Nat.blt_eq (x := pos n a) (y := pos n b)) ▸ h)).elim

theorem fold_run (hn : n ≤ 6) (C : Nat → Bool) (hC : ∀ s : Nat, s < 2 ^ n → r55.v n g nb gb m s = C s) : ∀ (q s b : Nat), s ≤ 2 ^ n → 2 ^ n - s < q → b < 2 ^ n →
    ∃ b', L32a.N n g nb gb m (((2 ^ n : Nat) : Int) - 1) q (s : Int) (r53.v (b : Int)) = .e0 (r53.v ((b' : Nat) : Int)) ∧ b' < 2 ^ n ∧ (b' = b ∨ C b' = true) ∧ pos n b' ≤ pos n b ∧ ∀ t, s ≤ t → t < 2 ^ n → C t = true → pos n b' ≤ pos n t := by
  have hp := pow_bd (n := n) (by omega)
  intro q
  induction q with
  | zero => intro s b _ h; omega
  | succ q ih =>
    intro s b hs hq hb
    simp only [L32a.N]
    by_cases h : s < 2 ^ n
    · rw [decide_eq_true (show (s : Int) ≤ ((2 ^ n : Nat) : Int) - 1 by omega), wrap_succ (n := 2 ^ n) (by omega) h, hC s h]
      have e : r54.v (r53.v (s : Int)).length (fun i => (r53.v (s : Int)).getD i 0) (r53.v (b : Int)).length (fun i => (r53.v (b : Int)).getD i 0) = decide (pos n s < pos n b) := ord_eq hn h hb
      rw [e]
      simp only [cond_true]
      have keep : (C s = true → pos n b ≤ pos n s) → ∃ b', L32a.N n g nb gb m (((2 ^ n : Nat) : Int) - 1) q ((s + 1 : Nat) : Int) (r53.v (b : Int)) = .e0 (r53.v ((b' : Nat) : Int)) ∧ b' < 2 ^ n ∧ (b' = b ∨ C b' = true) ∧ pos n b' ≤ pos n b ∧ ∀ t, s ≤ t → t < 2 ^ n → C t = true → pos n b' ≤ pos n t := fun hle => by
        obtain ⟨b', e1, e2, e3, e4, e5⟩ := ih (s + 1) b h (by omega) hb
        refine ⟨b', e1, e2, e3, e4, fun t h1 h2 h3 => ?_⟩
        by_cases c : t = s
        · subst c; have := hle h3; omega
        · exact e5 t (by omega) h2 h3
      by_cases c : pos n s < pos n b
      · rw [decide_eq_true c]
        simp only [cond_true]
        cases hc : C s with
        | false => simp only [cond_false]; exact keep fun q => by rw [q] at hc; cases hc
        | true =>
          simp only [cond_true]
          obtain ⟨b', e1, e2, e3, e4, e5⟩ := ih (s + 1) s h (by omega) h
          refine ⟨b', e1, e2, .inr ?_, by omega, fun t h1 h2 h3 => ?_⟩
          · rcases e3 with e3 | e3
            · rw [e3]; exact hc
            · exact e3
          · by_cases c : t = s
            · subst c; exact e4
            · exact e5 t (by omega) h2 h3
      · rw [decide_eq_false c]
        simp only [cond_false]
        exact keep fun _ => by omega
    · rw [decide_eq_false (by omega)]
      exact ⟨b, rfl, hb, .inl rfl, Nat.le_refl _, fun t h1 h2 => by omega⟩

theorem L29b_run (hn : n ≤ 6) {a : Int} {s : Nat} (hs : s < 64) (hv : sV n nb (fun i => (r48.v n g nb gb m).getD i 0) a = (s : Int)) : ∀ (q k v : Nat) (al : List Int), k ≤ n → n - k < q →
    ∃ v', L29ab.N n g nb gb m a q v al (k : Int) = .e0 v' (al ++ ((List.range' k (n - k)).filter fun k => s.testBit k).map fun (k : Nat) => Int.ofNat k) := by
  intro q
  induction q with
  | zero => intro k v al _ h; omega
  | succ q ih =>
    intro k v al hk hq
    simp only [L29ab.N, hv, Int.toNat_natCast]
    by_cases h : k < n
    · rw [decide_eq_true (show (k : Int) < (n : Int) by omega), wrap_succ (n := n) (by omega) h, (shift_bit hs (show k < 6 by omega)).2, show n - k = (n - (k + 1)) + 1 by omega, List.range'_succ]
      simp only [cond_true, List.filter_cons]
      cases hb : s.testBit k with
      | true =>
        simp only [cond_true, if_true, List.map_cons]
        obtain ⟨v', e⟩ := ih (k + 1) (v + 1) (al ++ [(k : Int)]) h (by omega)
        exact ⟨v', by rw [e, List.append_assoc]; rfl⟩
      | false =>
        simp only [cond_false]
        obtain ⟨v', e⟩ := ih (k + 1) v al h (by omega)
        exact ⟨v', by rw [e]; simp⟩
    · rw [decide_eq_false (by omega), show n - k = 0 by omega]
      exact ⟨v, by simp⟩

theorem L29_run (hn : n ≤ 6) : ∀ (q k : Nat) {x : Nat}, k ≤ n + 1 → n + 1 - k < q → (List.range' k (n + 1 - k)).findSome? (fun q => (comb n q 0 0).find? (eN nb fun i => (r48.v n g nb gb m).getD i 0)) = some x → x < 64 →
    ∃ v', L29a.N n g nb gb m q 0 [] (k : Int) = .e0 v' (idxL n x) := by
  intro q
  induction q with
  | zero => intro k x _ h; omega
  | succ q ih =>
    intro k x hk hq hx h64
    by_cases h : k ≤ n
    · simp only [L29a.N]
      obtain ⟨s1, s2⟩ := search_eq6 (n := n) (K := nb) (S := fun i => (r48.v n g nb gb m).getD i 0) hn (q := k) (by omega)
      rw [decide_eq_true (show (k : Int) ≤ (n : Int) by omega), s1, wrap_succ (n := n + 1) (by omega) (by omega)]
      rw [show n + 1 - k = (n + 1 - (k + 1)) + 1 by omega, List.range'_succ] at hx
      simp only [cond_true, List.findSome?_cons] at hx ⊢
      cases hf : (comb n k 0 0).find? (eN nb fun i => (r48.v n g nb gb m).getD i 0) with
      | none =>
        rw [hf] at hx
        exact ih (k + 1) (by omega) (by omega) hx h64
      | some y =>
        rw [hf] at hx
        cases hx
        rw [hf] at s2
        obtain ⟨v', e⟩ := L29b_run (g := g) (gb := gb) (m := m) hn h64 s2 (((n : Int) - 0).toNat + 1) 0 0 [] (Nat.zero_le _) (by omega)
        have e' : L29ab.run n g nb gb m (k : Int) 0 [] 0 = .e0 v' (idxL n x) := e
        rw [e']
        exact ⟨v', rfl⟩
    · rw [show n + 1 - k = 0 by omega] at hx; cases hx

theorem cover_eq (hn : n ≤ 6) (hb : nb ≤ 256) (hst : ∀ i, i < n → StOk (g i)) (hbb : ∀ i, i < nb → (r36.v (gb i).a (gb i).b (gb i).c (gb i).d (gb i).e (gb i).f == 0) = true) (hd : r37.v m = true) (hz : (r47.v n g nb gb m == 0) = true) :
    r29.v0 n g nb gb m = r32.v n g nb gb m ∧ r29.v1 n g nb gb m = 0 ∧ ∃ x, x < 2 ^ n ∧ cov n nb g gb m x = true ∧ r29.v0 n g nb gb m = idxL n x ∧ ∀ t, t < 2 ^ n → cov n nb g gb m t = true → pos n x ≤ pos n t := by
  have hp := pow_bd (n := n) (by omega)
  -- all stands are enough
  have call : cov n nb g gb m (2 ^ n - 1) = true := by
    unfold cov
    rw [anyN_false.2 fun i hi => ?_]; rfl
    cases h : anyN n (lf g gb m i) with
    | false => rfl
    | true =>
      obtain ⟨k, hk, hl⟩ := anyN_true.1 h
      rw [anyN_true.2 ⟨k, hk, by rw [hl, Nat.testBit_two_pow_sub_one]; simp [hk]⟩]; rfl
  obtain ⟨b', f1, f2, f3, f4, f5⟩ := fold_run (g := g) (nb := nb) (gb := gb) (m := m) hn (cov n nb g gb m) (fun s hs => r55_eq hn hb hst hbb hd (by omega)) ((((2 ^ n : Nat) : Int) - 1 + 1 - 0).toNat + 1) 0 (2 ^ n - 1) (by omega) (by omega) (by omega)
  have cb : cov n nb g gb m b' = true := by
    rcases f3 with e | e
    · rw [e]; exact call
    · exact e
  have e32 : r32.v n g nb gb m = idxL n b' := by
    have e1 : L32a.run n g nb gb m (((2 ^ n : Nat) : Int) - 1) 0 (r53.v (((2 ^ n : Nat) : Int) - 1)) = .e0 (r53.v ((b' : Nat) : Int)) := by
      rw [show (((2 ^ n : Nat) : Int) - 1) = ((2 ^ n - 1 : Nat) : Int) by omega]
      rw [show (((2 ^ n : Nat) : Int) - 1) = ((2 ^ n - 1 : Nat) : Int) by omega] at f1
      exact f1
    unfold r32.v
    rw [all_eq (by omega), e1, idx_eq hn f2]
  -- the first one that the search finds
  have hE : ∀ s, s < 2 ^ n → eN nb (fun i => (r48.v n g nb gb m).getD i 0) s = cov n nb g gb m s := fun s hs => eN_eq hn hb (by omega)
  cases hx : (enum n).find? (eN nb fun i => (r48.v n g nb gb m).getD i 0) with
  | none =>
    have := List.find?_eq_none.1 hx _ (in_enum hn f2)
    rw [hE b' f2, cb] at this
    exact (this rfl).elim
  | some x =>
    obtain ⟨px, pre, suf, hl, hno⟩ := List.find?_eq_some_iff_append.1 hx
    have hxin : x ∈ enum n := by rw [hl]; simp
    have hxlt := lt_enum hn hxin
    have cx : cov n nb g gb m x = true := by rw [← hE x hxlt]; exact px
    have hmin := f5 x (Nat.zero_le _) hxlt cx
    have nin : ∀ y, cov n nb g gb m y = true → y < 2 ^ n → y ∉ pre := fun y hy hlt hin => by
      have := hno y hin
      rw [hE y hlt, hy] at this
      simp at this
    have posx : pos n x = pre.length := by
      unfold pos
      rw [hl, List.idxOf_append, if_neg (nin x cx hxlt)]
      simp
    have hposb : pos n b' = pre.length + (x :: suf).idxOf b' := by
      unfold pos
      rw [hl, List.idxOf_append, if_neg (nin b' cb f2)]
      omega
    have hxb : b' = x := by
      rw [posx, hposb] at hmin
      by_cases e : x = b'
      · exact e.symm
      · rw [List.idxOf_cons, show (x == b') = false from beq_eq_false_iff_ne.2 e] at hmin
        simp only [cond_false] at hmin
        omega
    have hx' : (List.range' 0 (n + 1 - 0)).findSome? (fun q => (comb n q 0 0).find? (eN nb fun i => (r48.v n g nb gb m).getD i 0)) = some x := by
      rw [← hx]
      unfold enum
      rw [List.find?_flatMap]; rfl
    obtain ⟨v', e⟩ := L29_run (g := g) (gb := gb) (m := m) (nb := nb) hn (((n : Int) + 1 - 0).toNat + 1) 0 (Nat.zero_le _) (by omega) hx' (by omega)
    have e' : L29a.run n g nb gb m 0 [] 0 = .e0 v' (idxL n x) := e
    have e29 : r29.v0 n g nb gb m = idxL n x := by
      unfold r29.v0
      rw [hz, e']; rfl
    refine ⟨by rw [e29, e32, hxb], by unfold r29.v1; rw [hz, e']; rfl, x, hxlt, cx, e29, fun t ht hc => ?_⟩
    rw [← hxb]
    exact f5 t (Nat.zero_le _) ht hc

end Go.Proofs.Ytgmppoappaolkaa
