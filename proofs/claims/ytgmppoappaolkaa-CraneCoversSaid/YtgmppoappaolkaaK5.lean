/- CraneCovers: whatever the input, the law hands back true. Conditions: none. -/
import Derived.Test.YtgmppoappaolkaaK4

open Go

namespace Go.Proofs.Ytgmppoappaolkaa

set_option linter.unusedVariables false

set_option linter.unusedSimpArgs false

set_option maxRecDepth 100000

variable {n nb : Nat} {g : Nat → SD} {gb : Nat → BD} {m : Int}

/-- Whether a stand lifts a block. -/
noncomputable def lf (g : Nat → SD) (gb : Nat → BD) (m : Int) (i k : Nat) : Bool := decide (r46.v (g k) (gb i).a (gb i).b (gb i).c (gb i).d (gb i).e (gb i).f m ≥ 0)

theorem lf_eq (hst : ∀ i, i < n → StOk (g i)) (hbb : ∀ i, i < nb → (r36.v (gb i).a (gb i).b (gb i).c (gb i).d (gb i).e (gb i).f == 0) = true) (hd : r37.v m = true) {i k : Nat} (hi : i < nb) (hk : k < n) :
    r26.v (g k) (gb i).a (gb i).b (gb i).c (gb i).d (gb i).e (gb i).f m = lf g gb m i k := (lift_eq (hst k hk) (box_ok (hbb i hi)) hd).symm

theorem L48b_run (hn : n ≤ 6) (i : Nat) : ∀ q k, k ≤ n → n - k < q → L48ab.N n g gb m (i : Int) q ((mk (lf g gb m i) k : Nat) : Int) (k : Int) = .e0 ((mk (lf g gb m i) n : Nat) : Int) := by
  intro q
  induction q with
  | zero => intro k _ h; omega
  | succ q ih =>
    intro k hk hq
    simp only [L48ab.N, Int.toNat_natCast]
    by_cases h : k < n
    · rw [decide_eq_true (show (k : Int) < (n : Int) by omega), wrap_succ (n := n) (by omega) h]
      simp only [cond_true]
      have e : decide (r46.v (g k) (gb i).a (gb i).b (gb i).c (gb i).d (gb i).e (gb i).f m ≥ 0) = lf g gb m i k := rfl
      rw [e]
      have hm := mk_lt (lf g gb m i) k (by omega)
      have h64 : mk (lf g gb m i) k < 64 := Nat.lt_trans hm (pow_lt6 (by omega))
      obtain ⟨a1, _⟩ := add_bit (c := mk (lf g gb m i) k) (i := k) h64 (by omega)
      cases hl : lf g gb m i k with
      | true =>
        simp only [cond_true, a1]
        have e2 : mk (lf g gb m i) (k + 1) = mk (lf g gb m i) k ||| 2 ^ k := by simp only [mk]; rw [if_pos hl]
        rw [← e2]
        exact ih (k + 1) h (by omega)
      | false =>
        simp only [cond_false]
        have e2 : mk (lf g gb m i) (k + 1) = mk (lf g gb m i) k := by simp only [mk]; rw [if_neg (by rw [hl]; simp)]
        have := ih (k + 1) h (by omega)
        rw [e2] at this
        exact this
    · obtain rfl : k = n := by omega
      rw [decide_eq_false (by omega)]; rfl

theorem L48_run (hn : n ≤ 6) (hb : nb ≤ 256) : ∀ (q a v : Nat) (al : List Int), a ≤ nb → nb - a < q → ∃ v', L48a.N n g nb gb m q v al (a : Int) = .e0 v' (al ++ (List.range' a (nb - a)).map fun i => ((mk (lf g gb m i) n : Nat) : Int)) := by
  intro q
  induction q with
  | zero => intro a v al _ h; omega
  | succ q ih =>
    intro a v al ha hq
    simp only [L48a.N]
    by_cases h : a < nb
    · have e : L48ab.run n g gb m (a : Int) 0 0 = .e0 ((mk (lf g gb m a) n : Nat) : Int) := by
        have := L48b_run (g := g) (gb := gb) (m := m) hn a (((n : Int) - 0).toNat + 1) 0 (Nat.zero_le _) (by omega)
        exact this
      rw [decide_eq_true (show (a : Int) < nb by omega), wrap_succ (n := nb) (by omega) h, e, show nb - a = (nb - (a + 1)) + 1 by omega, List.range'_succ]
      simp only [cond_true]
      obtain ⟨v', e2⟩ := ih (a + 1) (v + 1) (al ++ [((mk (lf g gb m a) n : Nat) : Int)]) h (by omega)
      exact ⟨v', by rw [e2, List.append_assoc]; rfl⟩
    · rw [decide_eq_false (by omega), show nb - a = 0 by omega]
      exact ⟨v, by simp⟩

theorem r48_eq (hn : n ≤ 6) (hb : nb ≤ 256) : r48.v n g nb gb m = (List.range' 0 nb).map fun i => ((mk (lf g gb m i) n : Nat) : Int) := by
  obtain ⟨v', e⟩ := L48_run (g := g) (gb := gb) (m := m) hn hb (((nb : Int) - 0).toNat + 1) 0 0 [] (Nat.zero_le _) (by omega)
  have e' : L48a.run n g nb gb m 0 [] 0 = .e0 v' ((List.range' 0 nb).map fun i => ((mk (lf g gb m i) n : Nat) : Int)) := by simpa [L48a.run] using e
  unfold r48.v
  rw [e']

theorem r48_get (hn : n ≤ 6) (hb : nb ≤ 256) {i : Nat} (hi : i < nb) : (r48.v n g nb gb m).getD i 0 = ((mk (lf g gb m i) n : Nat) : Int) := by
  rw [r48_eq hn hb]
  simp [List.getD_eq_getElem?_getD, List.getElem?_range', hi]

theorem L34_neg (hn : n ≤ 9223372036854775807) {a b c d e f : Int} : ∀ (q i : Nat) (p w : Int), i ≤ n → n - i < q → ∃ z, L34.N n g a b c d e f m q (i : Int) p w = .e0 z ∧ (z < 0 ↔ p < 0 ∧ ∀ k, i ≤ k → k < n → r26.v (g k) a b c d e f m = false) := by
  intro q
  induction q with
  | zero => intro i p w _ h; omega
  | succ q ih =>
    intro i p w hi hq
    simp only [L34.N, Int.toNat_natCast]
    by_cases h : i < n
    · rw [decide_eq_true (show (i : Int) < (n : Int) by omega), wrap_succ hn h]
      simp only [cond_true]
      cases hl : r26.v (g i) a b c d e f m with
      | false =>
        obtain ⟨z, e1, e2⟩ := ih (i + 1) p w h (by omega)
        refine ⟨z, e1, e2.trans ⟨fun hh => ⟨hh.1, fun k h1 h2 => ?_⟩, fun hh => ⟨hh.1, fun k h1 h2 => hh.2 k (by omega) h2⟩⟩⟩
        by_cases e : k = i
        · rw [e]; exact hl
        · exact hh.2 k (by omega) h2
      | true =>
        have no : ¬ (p < 0 ∧ ∀ k, i ≤ k → k < n → r26.v (g k) a b c d e f m = false) := fun hh => by have := hh.2 i (Nat.le_refl _) h; rw [hl] at this; cases this
        simp only [cond_true]
        have put : ∀ w', ∃ z, L34.N n g a b c d e f m q ((i + 1 : Nat) : Int) (i : Int) w' = .e0 z ∧ (z < 0 ↔ p < 0 ∧ ∀ k, i ≤ k → k < n → r26.v (g k) a b c d e f m = false) := fun w' => by
          obtain ⟨z, e1, e2⟩ := ih (i + 1) (i : Int) w' h (by omega)
          exact ⟨z, e1, ⟨fun hz => by have := (e2.1 hz).1; omega, fun hh => (no hh).elim⟩⟩
        by_cases c1 : p < 0
        · rw [decide_eq_true c1]; exact put _
        · rw [decide_eq_false c1]
          simp only [cond_false]
          cases decide (r25.v0 (g i) a b d e > w) with
          | true => exact put _
          | false =>
            obtain ⟨z, e1, e2⟩ := ih (i + 1) p w h (by omega)
            exact ⟨z, e1, ⟨fun hz => (c1 (e2.1 hz).1).elim, fun hh => (no hh).elim⟩⟩
    · rw [decide_eq_false (by omega)]
      exact ⟨p, rfl, ⟨fun hp => ⟨hp, fun k h1 h2 => by omega⟩, fun hh => hh.1⟩⟩

theorem r34_neg (hn : n ≤ 9223372036854775807) {a b c d e f : Int} : decide (r34.v n g a b c d e f m < 0) = !anyN n fun k => r26.v (g k) a b c d e f m := by
  obtain ⟨z, e1, e2⟩ := L34_neg (g := g) (m := m) (a := a) (b := b) (c := c) (d := d) (e := e) (f := f) hn (((n : Int) - 0).toNat + 1) 0 (-1) 0 (Nat.zero_le _) (by omega)
  have e1' : L34.run n g a b c d e f m 0 (-1) 0 = .e0 z := e1
  unfold r34.v
  rw [e1']
  show decide (z < 0) = _
  cases h : anyN n fun k => r26.v (g k) a b c d e f m with
  | true =>
    obtain ⟨k, hk, hp⟩ := anyN_true.1 h
    exact decide_eq_false fun hz => by have := (e2.1 hz).2 k (Nat.zero_le _) hk; rw [hp] at this; cases this
  | false =>
    have h := anyN_false.1 h
    exact decide_eq_true (e2.2 ⟨by decide, fun k _ hk => h k hk⟩)

theorem missing_eq (hn : n ≤ 6) (hb : nb ≤ 256) (hst : ∀ i, i < n → StOk (g i)) (hbb : ∀ i, i < nb → (r36.v (gb i).a (gb i).b (gb i).c (gb i).d (gb i).e (gb i).f == 0) = true) (hd : r37.v m = true) : ∀ (q a v : Nat) (al : List ByteArray), a ≤ nb → nb - a < q →
    ∃ v' R, L28a.N n g nb gb m q v al (a : Int) = .e0 v' R ∧ L31a.N n g nb gb m q v al (a : Int) = .e0 v' R := by
  intro q
  induction q with
  | zero => intro a v al _ h; omega
  | succ q ih =>
    intro a v al ha hq
    simp only [L28a.N, L31a.N, Int.toNat_natCast]
    by_cases h : a < nb
    · have e : ((r48.v n g nb gb m).getD a 0 == 0) = decide (r34.v n g (gb a).a (gb a).b (gb a).c (gb a).d (gb a).e (gb a).f m < 0) := by
        rw [r34_neg (by omega), r48_get hn hb h, anyN_congr fun k hk => lf_eq hst hbb hd h hk]
        have := mk_zero (lf g gb m a) n
        rw [← this]
        by_cases c : mk (lf g gb m a) n = 0
        · rw [c]; rfl
        · rw [show (mk (lf g gb m a) n == 0) = false from beq_eq_false_iff_ne.2 c]
          exact beq_eq_false_iff_ne.2 (by omega)
      rw [decide_eq_true (show (a : Int) < nb by omega), wrap_succ (n := nb) (by omega) h, e]
      simp only [cond_true]
      cases decide (r34.v n g (gb a).a (gb a).b (gb a).c (gb a).d (gb a).e (gb a).f m < 0) with
      | true => exact ih (a + 1) _ _ h (by omega)
      | false => exact ih (a + 1) _ _ h (by omega)
    · rw [decide_eq_false (by omega)]
      exact ⟨v, al, rfl, rfl⟩

/-- Each block that is lifted at all is lifted by one of the set. -/
noncomputable def cov (n nb : Nat) (g : Nat → SD) (gb : Nat → BD) (m : Int) (s : Nat) : Bool := !anyN nb fun i => anyN n (lf g gb m i) && !anyN n fun k => lf g gb m i k && s.testBit k

theorem eN_eq (hn : n ≤ 6) (hb : nb ≤ 256) {s : Nat} (hs : s < 64) : eN nb (fun i => (r48.v n g nb gb m).getD i 0) s = cov n nb g gb m s := by
  have step : ∀ i, i < nb → r51.v ((r48.v n g nb gb m).getD i 0) (s : Int) = (anyN n (lf g gb m i) && !anyN n fun k => lf g gb m i k && s.testBit k) := fun i hi => by
    have h64 : mk (lf g gb m i) n < 64 := Nat.lt_of_lt_of_le (mk_lt _ n hn) (by have := pow_bd (n := n) (by omega); omega)
    rw [r48_get hn hb hi]
    unfold r51.v
    rw [and_nat h64 hs]
    have z1 := mk_zero (lf g gb m i) n
    have z2 := mk_and (lf g gb m i) n s
    have c1 : (((mk (lf g gb m i) n : Nat) : Int) == 0) = (mk (lf g gb m i) n == 0) := by
      by_cases c : mk (lf g gb m i) n = 0
      · rw [c]; rfl
      · rw [show (mk (lf g gb m i) n == 0) = false from beq_eq_false_iff_ne.2 c]; exact beq_eq_false_iff_ne.2 (by omega)
    have c2 : (((mk (lf g gb m i) n &&& s : Nat) : Int) == 0) = (mk (lf g gb m i) n &&& s == 0) := by
      by_cases c : mk (lf g gb m i) n &&& s = 0
      · rw [c]; rfl
      · rw [show (mk (lf g gb m i) n &&& s == 0) = false from beq_eq_false_iff_ne.2 c]; exact beq_eq_false_iff_ne.2 (by omega)
    rw [c1, c2, z1, z2]
    cases anyN n (lf g gb m i) <;> cases anyN n (fun k => lf g gb m i k && s.testBit k) <;> rfl
  have h1 := search_eq (n := nb) (fun i => r51.v ((r48.v n g nb gb m).getD i 0) (s : Int)) (fun i => L70a.O.e0 (i : Int)) .e1 (N := L70a.N nb (fun i => (r48.v n g nb gb m).getD i 0) (s : Int)) (fun k' i h => by
    simp only [L70a.N, wrap_succ (n := nb) (by omega) h, Int.toNat_natCast]
    rw [decide_eq_true (show (i : Int) < nb by omega)]
    rfl) (fun k => by simp [L70a.N]) (nb + 1) 0 (Nat.zero_le _) (by omega)
  have e1 : L70a.run nb (fun i => (r48.v n g nb gb m).getD i 0) (s : Int) 0 = srch (fun i => r51.v ((r48.v n g nb gb m).getD i 0) (s : Int)) (fun i => L70a.O.e0 (i : Int)) .e1 0 nb := by simpa [L70a.run] using h1
  unfold eN r52_0.v1 r49.v r50.v r70.v cov
  rw [e1, ← anyN_congr step]
  rcases srch_cases (fun i => r51.v ((r48.v n g nb gb m).getD i 0) (s : Int)) (fun i => L70a.O.e0 (i : Int)) .e1 nb 0 with ⟨a1, a2⟩ | ⟨i, a1, a2, a3, a4, a5⟩
  · rw [a2, anyN_false.2 fun i hi => a1 i (Nat.zero_le _) (by omega)]; rfl
  · rw [a5, anyN_true.2 ⟨i, by omega, a3⟩]
    show (!decide ((i : Int) ≥ 0)) = !true
    rw [decide_eq_true (by omega)]

theorem shift_all : ((List.range 64).all fun s => (List.range 6).all fun k => ((((s : Int).fdiv (2 ^ min (IntKind.u64.wrap (k : Int)).toNat 64)).tmod 2 == 1) == s.testBit k) && ((IntKind.u64.wrap (((BitVec.ofInt 64 ((s : Int).fdiv (2 ^ min k 64)) &&& BitVec.ofInt 64 1).toNat : Nat) : Int) == 1) == s.testBit k)) = true := by kernel_rfl

theorem shift_bit {s k : Nat} (hs : s < 64) (hk : k < 6) : (((s : Int).fdiv (2 ^ min (IntKind.u64.wrap (k : Int)).toNat 64)).tmod 2 == 1) = s.testBit k ∧ (IntKind.u64.wrap (((BitVec.ofInt 64 ((s : Int).fdiv (2 ^ min k 64)) &&& BitVec.ofInt 64 1).toNat : Nat) : Int) == 1) = s.testBit k := by
  have h1 := List.all_eq_true.1 shift_all s (List.mem_range.2 hs)
  have h2 := List.all_eq_true.1 h1 k (List.mem_range.2 hk)
  simp only [Bool.and_eq_true] at h2
  exact ⟨eq_of_beq h2.1, eq_of_beq h2.2⟩

theorem L55b_run (hn : n ≤ 6) (hst : ∀ i, i < n → StOk (g i)) (hbb : ∀ i, i < nb → (r36.v (gb i).a (gb i).b (gb i).c (gb i).d (gb i).e (gb i).f == 0) = true) (hd : r37.v m = true) {s i : Nat} (hs : s < 64) (hi : i < nb) : ∀ q k b1 b2, k ≤ n → n - k < q →
    L55ab.N n g gb m (s : Int) (i : Int) q b1 b2 (k : Int) = .e0 (b1 || (List.range' k (n - k)).any (lf g gb m i)) (b2 || (List.range' k (n - k)).any fun k => lf g gb m i k && s.testBit k) := by
  intro q
  induction q with
  | zero => intro k b1 b2 _ h; omega
  | succ q ih =>
    intro k b1 b2 hk hq
    simp only [L55ab.N, Int.toNat_natCast]
    by_cases h : k < n
    · rw [decide_eq_true (show (k : Int) < (n : Int) by omega), wrap_succ (n := n) (by omega) h, lf_eq hst hbb hd hi h, (shift_bit hs (show k < 6 by omega)).1, show n - k = (n - (k + 1)) + 1 by omega, List.range'_succ]
      simp only [cond_true, List.any_cons]
      cases hl : lf g gb m i k with
      | false =>
        simp only [cond_false]
        rw [ih (k + 1) b1 b2 h (by omega)]
        simp
      | true =>
        simp only [cond_true]
        cases b2 with
        | true => simp only [cond_true]; rw [ih (k + 1) true true h (by omega)]; simp
        | false => simp only [cond_false]; rw [ih (k + 1) true _ h (by omega)]; simp
    · rw [decide_eq_false (by omega), show n - k = 0 by omega]; simp

theorem r55_eq (hn : n ≤ 6) (hb : nb ≤ 256) (hst : ∀ i, i < n → StOk (g i)) (hbb : ∀ i, i < nb → (r36.v (gb i).a (gb i).b (gb i).c (gb i).d (gb i).e (gb i).f == 0) = true) (hd : r37.v m = true) {s : Nat} (hs : s < 64) : r55.v n g nb gb m s = cov n nb g gb m s := by
  have h1 := search_eq (n := nb) (fun i => anyN n (lf g gb m i) && !anyN n fun k => lf g gb m i k && s.testBit k) (fun _ => L55a.O.e0) .e1 (N := L55a.N n g nb gb m (s : Int)) (fun k' i h => by
    have e : L55ab.run n g gb m (s : Int) (i : Int) false false 0 = .e0 (anyN n (lf g gb m i)) (anyN n fun k => lf g gb m i k && s.testBit k) := by
      have := L55b_run hn hst hbb hd hs h (((n : Int) - 0).toNat + 1) 0 false false (Nat.zero_le _) (by omega)
      unfold anyN
      rw [List.range_eq_range']
      simpa [L55ab.run] using this
    simp only [L55a.N, wrap_succ (n := nb) (by omega) h, e]
    rw [decide_eq_true (show (i : Int) < nb by omega)]
    cases anyN n (lf g gb m i) <;> cases anyN n (fun k => lf g gb m i k && s.testBit k) <;> rfl) (fun k => by simp [L55a.N]) (nb + 1) 0 (Nat.zero_le _) (by omega)
  rw [srch_any] at h1
  have e1 : L55a.run n g nb gb m (s : Int) 0 = bif anyN nb (fun i => anyN n (lf g gb m i) && !anyN n fun k => lf g gb m i k && s.testBit k) then .e0 else .e1 := by simpa [L55a.run] using h1
  unfold r55.v cov
  rw [e1]
  cases anyN nb (fun i => anyN n (lf g gb m i) && !anyN n fun k => lf g gb m i k && s.testBit k) <;> rfl

end Go.Proofs.Ytgmppoappaolkaa

open Go

namespace Go.Proofs.Ytgmppoappaolkaa

set_option linter.unusedVariables false

set_option linter.unusedSimpArgs false

set_option maxRecDepth 100000

set_option maxHeartbeats 0

def enum (n : Nat) : List Nat := (List.range' 0 (n + 1)).flatMap fun q => comb n q 0 0

def pos (n s : Nat) : Nat := (enum n).idxOf s

def idxL (n s : Nat) : List Int := ((List.range' 0 n).filter fun k => s.testBit k).map fun (k : Nat) => Int.ofNat k

noncomputable def ltI (a b : Nat) : Bool := r54.v (r53.v (a : Int)).length (fun i => (r53.v (a : Int)).getD i 0) (r53.v (b : Int)).length (fun i => (r53.v (b : Int)).getD i 0)

theorem all_in : ((List.range 7).all fun n => (List.range (2 ^ n)).all fun s => (enum n).contains s) = true := by kernel_rfl

theorem all_lt : ((List.range 7).all fun n => (enum n).all fun s => Nat.blt s (2 ^ n)) = true := by kernel_rfl

theorem all_idx : ((List.range 7).all fun n => (List.range (2 ^ n)).all fun s => r53.v (s : Int) == idxL n s) = true := by kernel_rfl

theorem all_ord : ((List.range 7).all fun n => (List.range (2 ^ n)).all fun a => (List.range (2 ^ n)).all fun b => ltI a b == Nat.blt (pos n a) (pos n b)) = true := by kernel_rfl

end Go.Proofs.Ytgmppoappaolkaa

open Go

namespace Go.Proofs.Ytgmppoappaolkaa

set_option linter.unusedVariables false

set_option linter.unusedSimpArgs false

set_option maxRecDepth 100000

variable {n nb : Nat} {g : Nat → SD} {gb : Nat → BD} {m : Int}

theorem in_enum (hn : n ≤ 6) {s : Nat} (hs : s < 2 ^ n) : s ∈ enum n := by
  have h1 := List.all_eq_true.1 all_in n (List.mem_range.2 (by omega))
  have h2 := List.all_eq_true.1 h1 s (List.mem_range.2 hs)
  simpa using h2

theorem lt_enum (hn : n ≤ 6) {s : Nat} (hs : s ∈ enum n) : s < 2 ^ n := by
  have h1 := List.all_eq_true.1 all_lt n (List.mem_range.2 (by omega))
  have h2 := List.all_eq_true.1 h1 s hs
  simpa [Nat.blt_eq] using h2

theorem idx_eq (hn : n ≤ 6) {s : Nat} (hs : s < 2 ^ n) : r53.v (s : Int) = idxL n s := by
  have h1 := List.all_eq_true.1 all_idx n (List.mem_range.2 (by omega))
  have h2 := List.all_eq_true.1 h1 s (List.mem_range.2 hs)
  exact eq_of_beq h2

theorem ord_eq (hn : n ≤ 6) {a b : Nat} (ha : a < 2 ^ n) (hb : b < 2 ^ n) : ltI a b = decide (pos n a < pos n b) := by
  have h1 := List.all_eq_true.1 all_ord n (List.mem_range.2 (by omega))
  have h2 := List.all_eq_true.1 h1 a (List.mem_range.2 ha)
  have h3 := List.all_eq_true.1 h2 b (List.mem_range.2 hb)
  rw [eq_of_beq h3]
  by_cases c : pos n a < pos n b
  · rw [decide_eq_true c]; exact (Nat.blt_eq (x := pos n a) (y := pos n b)) ▸ c
  · rw [decide_eq_false c]
    cases h : Nat.blt (pos n a) (pos n b) with
    | false => rfl
    | true => exact (c ((Nat.blt_eq (x := pos n a) (y := pos n b)) ▸ h)).elim

theorem fold_run (hn : n ≤ 6) (C : Nat → Bool) (hC : ∀ s : Nat, s < 2 ^ n → r55.v n g nb gb m s = C s) : ∀ (q s b : Nat), s ≤ 2 ^ n → 2 ^ n - s < q → b < 2 ^ n →
    ∃ b', L32a.N n g nb gb m (((2 ^ n : Nat) : Int) - 1) q (s : Int) (r53.v (b : Int)) = .e0 (r53.v ((b' : Nat) : Int)) ∧ b' < 2 ^ n ∧ (b' = b ∨ C b' = true) ∧ pos n b' ≤ pos n b ∧ ∀ t, s ≤ t → t < 2 ^ n → C t = true → pos n b' ≤ pos n t := by
  have hp := pow_bd (n := n) (by omega)
  intro q
  induction q with
  | zero => intro s b _ h; omega
  | succ q ih =>
    intro s b hs hq hb
    simp only [L32a.N]
    by_cases h : s < 2 ^ n
    · rw [decide_eq_true (show (s : Int) ≤ ((2 ^ n : Nat) : Int) - 1 by omega), wrap_succ (n := 2 ^ n) (by omega) h, hC s h]
      have e : r54.v (r53.v (s : Int)).length (fun i => (r53.v (s : Int)).getD i 0) (r53.v (b : Int)).length (fun i => (r53.v (b : Int)).getD i 0) = decide (pos n s < pos n b) := ord_eq hn h hb
      rw [e]
      simp only [cond_true]
      have keep : (C s = true → pos n b ≤ pos n s) → ∃ b', L32a.N n g nb gb m (((2 ^ n : Nat) : Int) - 1) q ((s + 1 : Nat) : Int) (r53.v (b : Int)) = .e0 (r53.v ((b' : Nat) : Int)) ∧ b' < 2 ^ n ∧ (b' = b ∨ C b' = true) ∧ pos n b' ≤ pos n b ∧ ∀ t, s ≤ t → t < 2 ^ n → C t = true → pos n b' ≤ pos n t := fun hle => by
        obtain ⟨b', e1, e2, e3, e4, e5⟩ := ih (s + 1) b h (by omega) hb
        refine ⟨b', e1, e2, e3, e4, fun t h1 h2 h3 => ?_⟩
        by_cases c : t = s
        · subst c; have := hle h3; omega
        · exact e5 t (by omega) h2 h3
      by_cases c : pos n s < pos n b
      · rw [decide_eq_true c]
        simp only [cond_true]
        cases hc : C s with
        | false => simp only [cond_false]; exact keep fun q => by rw [q] at hc; cases hc
        | true =>
          simp only [cond_true]
          obtain ⟨b', e1, e2, e3, e4, e5⟩ := ih (s + 1) s h (by omega) h
          refine ⟨b', e1, e2, .inr ?_, by omega, fun t h1 h2 h3 => ?_⟩
          · rcases e3 with e3 | e3
            · rw [e3]; exact hc
            · exact e3
          · by_cases c : t = s
            · subst c; exact e4
            · exact e5 t (by omega) h2 h3
      · rw [decide_eq_false c]
        simp only [cond_false]
        exact keep fun _ => by omega
    · rw [decide_eq_false (by omega)]
      exact ⟨b, rfl, hb, .inl rfl, Nat.le_refl _, fun t h1 h2 => by omega⟩

theorem L29b_run (hn : n ≤ 6) {a : Int} {s : Nat} (hs : s < 64) (hv : sV n nb (fun i => (r48.v n g nb gb m).getD i 0) a = (s : Int)) : ∀ (q k v : Nat) (al : List Int), k ≤ n → n - k < q →
    ∃ v', L29ab.N n g nb gb m a q v al (k : Int) = .e0 v' (al ++ ((List.range' k (n - k)).filter fun k => s.testBit k).map fun (k : Nat) => Int.ofNat k) := by
  intro q
  induction q with
  | zero => intro k v al _ h; omega
  | succ q ih =>
    intro k v al hk hq
    simp only [L29ab.N, hv, Int.toNat_natCast]
    by_cases h : k < n
    · rw [decide_eq_true (show (k : Int) < (n : Int) by omega), wrap_succ (n := n) (by omega) h, (shift_bit hs (show k < 6 by omega)).2, show n - k = (n - (k + 1)) + 1 by omega, List.range'_succ]
      simp only [cond_true, List.filter_cons]
      cases hb : s.testBit k with
      | true =>
        simp only [cond_true, if_true, List.map_cons]
        obtain ⟨v', e⟩ := ih (k + 1) (v + 1) (al ++ [(k : Int)]) h (by omega)
        exact ⟨v', by rw [e, List.append_assoc]; rfl⟩
      | false =>
        simp only [cond_false]
        obtain ⟨v', e⟩ := ih (k + 1) v al h (by omega)
        exact ⟨v', by rw [e]; simp⟩
    · rw [decide_eq_false (by omega), show n - k = 0 by omega]
      exact ⟨v, by simp⟩

theorem L29_run (hn : n ≤ 6) : ∀ (q k : Nat) {x : Nat}, k ≤ n + 1 → n + 1 - k < q → (List.range' k (n + 1 - k)).findSome? (fun q => (comb n q 0 0).find? (eN nb fun i => (r48.v n g nb gb m).getD i 0)) = some x → x < 64 →
    ∃ v', L29a.N n g nb gb m q 0 [] (k : Int) = .e0 v' (idxL n x) := by
  intro q
  induction q with
  | zero => intro k x _ h; omega
  | succ q ih =>
    intro k x hk hq hx h64
    by_cases h : k ≤ n
    · simp only [L29a.N]
      obtain ⟨s1, s2⟩ := search_eq6 (n := n) (K := nb) (S := fun i => (r48.v n g nb gb m).getD i 0) hn (q := k) (by omega)
      rw [decide_eq_true (show (k : Int) ≤ (n : Int) by omega), s1, wrap_succ (n := n + 1) (by omega) (by omega)]
      rw [show n + 1 - k = (n + 1 - (k + 1)) + 1 by omega, List.range'_succ] at hx
      simp only [cond_true, List.findSome?_cons] at hx ⊢
      cases hf : (comb n k 0 0).find? (eN nb fun i => (r48.v n g nb gb m).getD i 0) with
      | none =>
        rw [hf] at hx
        exact ih (k + 1) (by omega) (by omega) hx h64
      | some y =>
        rw [hf] at hx
        cases hx
        rw [hf] at s2
        obtain ⟨v', e⟩ := L29b_run (g := g) (gb := gb) (m := m) hn h64 s2 (((n : Int) - 0).toNat + 1) 0 0 [] (Nat.zero_le _) (by omega)
        have e' : L29ab.run n g nb gb m (k : Int) 0 [] 0 = .e0 v' (idxL n x) := e
        rw [e']
        exact ⟨v', rfl⟩
    · rw [show n + 1 - k = 0 by omega] at hx; cases hx

theorem cover_eq (hn : n ≤ 6) (hb : nb ≤ 256) (hst : ∀ i, i < n → StOk (g i)) (hbb : ∀ i, i < nb → (r36.v (gb i).a (gb i).b (gb i).c (gb i).d (gb i).e (gb i).f == 0) = true) (hd : r37.v m = true) (hz : (r47.v n g nb gb m == 0) = true) :
    r29.v0 n g nb gb m = r32.v n g nb gb m ∧ r29.v1 n g nb gb m = 0 ∧ ∃ x, x < 2 ^ n ∧ cov n nb g gb m x = true ∧ r29.v0 n g nb gb m = idxL n x ∧ ∀ t, t < 2 ^ n → cov n nb g gb m t = true → pos n x ≤ pos n t := by
  have hp := pow_bd (n := n) (by omega)
  -- all stands are enough
  have call : cov n nb g gb m (2 ^ n - 1) = true := by
    unfold cov
    rw [anyN_false.2 fun i hi => ?_]; rfl
    cases h : anyN n (lf g gb m i) with
    | false => rfl
    | true =>
      obtain ⟨k, hk, hl⟩ := anyN_true.1 h
      rw [anyN_true.2 ⟨k, hk, by rw [hl, Nat.testBit_two_pow_sub_one]; simp [hk]⟩]; rfl
  obtain ⟨b', f1, f2, f3, f4, f5⟩ := fold_run (g := g) (nb := nb) (gb := gb) (m := m) hn (cov n nb g gb m) (fun s hs => r55_eq hn hb hst hbb hd (by omega)) ((((2 ^ n : Nat) : Int) - 1 + 1 - 0).toNat + 1) 0 (2 ^ n - 1) (by omega) (by omega) (by omega)
  have cb : cov n nb g gb m b' = true := by
    rcases f3 with e | e
    · rw [e]; exact call
    · exact e
  have e32 : r32.v n g nb gb m = idxL n b' := by
    have e1 : L32a.run n g nb gb m (((2 ^ n : Nat) : Int) - 1) 0 (r53.v (((2 ^ n : Nat) : Int) - 1)) = .e0 (r53.v ((b' : Nat) : Int)) := by
      rw [show (((2 ^ n : Nat) : Int) - 1) = ((2 ^ n - 1 : Nat) : Int) by omega]
      rw [show (((2 ^ n : Nat) : Int) - 1) = ((2 ^ n - 1 : Nat) : Int) by omega] at f1
      exact f1
    unfold r32.v
    rw [all_eq (by omega), e1, idx_eq hn f2]
  -- the first one that the search finds
  have hE : ∀ s, s < 2 ^ n → eN nb (fun i => (r48.v n g nb gb m).getD i 0) s = cov n nb g gb m s := fun s hs => eN_eq hn hb (by omega)
  cases hx : (enum n).find? (eN nb fun i => (r48.v n g nb gb m).getD i 0) with
  | none =>
    have := List.find?_eq_none.1 hx _ (in_enum hn f2)
    rw [hE b' f2, cb] at this
    exact (this rfl).elim
  | some x =>
    obtain ⟨px, pre, suf, hl, hno⟩ := List.find?_eq_some_iff_append.1 hx
    have hxin : x ∈ enum n := by rw [hl]; simp
    have hxlt := lt_enum hn hxin
    have cx : cov n nb g gb m x = true := by rw [← hE x hxlt]; exact px
    have hmin := f5 x (Nat.zero_le _) hxlt cx
    have nin : ∀ y, cov n nb g gb m y = true → y < 2 ^ n → y ∉ pre := fun y hy hlt hin => by
      have := hno y hin
      rw [hE y hlt, hy] at this
      simp at this
    have posx : pos n x = pre.length := by
      unfold pos
      rw [hl, List.idxOf_append, if_neg (nin x cx hxlt)]
      simp
    have hposb : pos n b' = pre.length + (x :: suf).idxOf b' := by
      unfold pos
      rw [hl, List.idxOf_append, if_neg (nin b' cb f2)]
      omega
    have hxb : b' = x := by
      rw [posx, hposb] at hmin
      by_cases e : x = b'
      · exact e.symm
      · rw [List.idxOf_cons, show (x == b') = false from beq_eq_false_iff_ne.2 e] at hmin
        simp only [cond_false] at hmin
        omega
    have hx' : (List.range' 0 (n + 1 - 0)).findSome? (fun q => (comb n q 0 0).find? (eN nb fun i => (r48.v n g nb gb m).getD i 0)) = some x := by
      rw [← hx]
      unfold enum
      rw [List.find?_flatMap]; rfl
    obtain ⟨v', e⟩ := L29_run (g := g) (gb := gb) (m := m) (nb := nb) hn (((n : Int) + 1 - 0).toNat + 1) 0 (Nat.zero_le _) (by omega) hx' (by omega)
    have e' : L29a.run n g nb gb m 0 [] 0 = .e0 v' (idxL n x) := e
    have e29 : r29.v0 n g nb gb m = idxL n x := by
      unfold r29.v0
      rw [hz, e']; rfl
    refine ⟨by rw [e29, e32, hxb], by unfold r29.v1; rw [hz, e']; rfl, x, hxlt, cx, e29, fun t ht hc => ?_⟩
    rw [← hxb]
    exact f5 t (Nat.zero_le _) ht hc

theorem work_eq (hnb : nb ≤ 9223372036854775807) (hn : n ≤ 9223372036854775807) : r47.v n g nb gb m = bif r21.v n g == 0 then r30.v nb gb m else r21.v n g := by
  have e17 : r17.v = r37.v := rfl
  have h1 := search_eq (n := nb) (fun i => !(bx0 (gb i) == 0)) (fun i => L30.O.e0 (bx0 (gb i))) .e1 (N := L30.N nb gb) (fun k' i h => by
    simp only [L30.N, wrap_succ hnb h, Int.toNat_natCast, r14_eq]
    rw [decide_eq_true (show (i : Int) < nb by omega)]
    show (bif true then (bif bx0 (gb i) == 0 then _ else L30.O.e0 (bx0 (gb i))) else _) = _
    cases bx0 (gb i) == 0 <;> rfl) (fun k => by simp [L30.N]) (nb + 1) 0 (Nat.zero_le _) (by omega)
  have e30 : L30.run nb gb 0 = srch (fun i => !(bx0 (gb i) == 0)) (fun i => L30.O.e0 (bx0 (gb i))) .e1 0 nb := by simpa [L30.run] using h1
  unfold r47.v r30.v
  rw [check_eq hn, L47_run hnb, e30, e17]
  rcases srch_cases (fun i => !(bx0 (gb i) == 0)) (fun i => L47.O.e0 (bx0 (gb i))) .e1 nb 0 with ⟨a1, a2⟩ | ⟨i, a1, a2, a3, a4, a5⟩
  · rcases srch_cases (fun i => !(bx0 (gb i) == 0)) (fun i => L30.O.e0 (bx0 (gb i))) .e1 nb 0 with ⟨b1, b2⟩ | ⟨i, b1, b2, b3, b4, b5⟩
    · rw [a2, b2]
    · rw [a1 i b1 b2] at b3; cases b3
  · rcases srch_cases (fun i => !(bx0 (gb i) == 0)) (fun i => L30.O.e0 (bx0 (gb i))) .e1 nb 0 with ⟨b1, b2⟩ | ⟨k, b1, b2, b3, b4, b5⟩
    · rw [b1 i a1 a2] at a3; cases a3
    · have : k = i := by
        rcases Nat.lt_trichotomy k i with q | q | q
        · rw [a4 k b1 q] at b3; cases b3
        · exact q
        · rw [b4 i a1 q] at a3; cases a3
      rw [a5, b5, this]

theorem r5_true (hn : n ≤ 9223372036854775807) (hnb : nb ≤ 9223372036854775807) : r5.v n g nb gb m = true := by
  unfold r5.v
  cases h19 : r19.v n g 6 with
  | false => rfl
  | true =>
  cases h27 : r27.v nb gb 8 with
  | false => rfl
  | true =>
    have hn6 := bd19n h19
    have hb8 := bd27n h27
    have hw := work_eq (g := g) (gb := gb) (m := m) hnb hn
    simp only [cond_true]
    have bad : r47.v n g nb gb m ≠ 0 → r28.v1 n g nb gb m = r47.v n g nb gb m ∧ r29.v1 n g nb gb m = r47.v n g nb gb m ∧ r28.v0 n g nb gb m = [] ∧ r29.v0 n g nb gb m = [] := fun hz => by
      have hz : (r47.v n g nb gb m == 0) = false := beq_eq_false_iff_ne.2 hz
      unfold r28.v1 r29.v1 r28.v0 r29.v0
      rw [hz]
      exact ⟨rfl, rfl, rfl, rfl⟩
    cases h21 : (r21.v n g == 0) with
    | false =>
      rw [h21] at hw
      simp only [cond_false] at hw
      obtain ⟨q1, q2, q3, q4⟩ := bad (by rw [hw]; exact ne_of_beq_false h21)
      rw [q1, q2, q3, q4, hw]
      simp
    | true =>
      rw [h21] at hw
      simp only [cond_true] at hw
      cases h30 : (r30.v nb gb m == 0) with
      | false =>
        obtain ⟨q1, q2, q3, q4⟩ := bad (by rw [hw]; exact ne_of_beq_false h30)
        rw [q1, q2, q3, q4, hw]
        simp
      | true =>
        have hz : (r47.v n g nb gb m == 0) = true := by rw [hw]; exact h30
        obtain ⟨k1, k2, k3, k4, k5⟩ := ready_ok hz hn
        have hst : ∀ i, i < n → StOk (g i) := ok43s hn (ok20z (by rw [k1]; rfl))
        obtain ⟨c1, c2, _⟩ := cover_eq (g := g) (gb := gb) (m := m) (show n ≤ 6 by omega) (show nb ≤ 256 by omega) hst k3 k4 hz
        obtain ⟨v', R, m1, m2⟩ := missing_eq (g := g) (gb := gb) (m := m) (show n ≤ 6 by omega) (show nb ≤ 256 by omega) hst k3 k4 (((nb : Int) - 0).toNat + 1) 0 0 [] (Nat.zero_le _) (by omega)
        have m1' : L28a.run n g nb gb m 0 [] 0 = .e0 v' R := m1
        have m2' : L31a.run n g nb gb m 0 [] 0 = .e0 v' R := m2
        have e28 : r28.v0 n g nb gb m = R := by unfold r28.v0; rw [hz, m1']; rfl
        have e28' : r28.v1 n g nb gb m = 0 := by unfold r28.v1; rw [hz, m1']; rfl
        have e31 : r31.v n g nb gb m = R := by unfold r31.v; rw [m2']
        have hR : R.length ≤ 9 := by
          have := L31a.lenR0_1 n g nb gb m m2'
          simp only [List.length_nil] at this
          omega
        have h32 := r32_len (g := g) (nb := nb) (gb := gb) (m := m) hn6
        have a5 : L5a.run n g nb gb m 0 = .e1 := by
          have key : ∀ q i, i ≤ R.length → R.length - i < q → L5a.N n g nb gb m q (i : Int) = .e1 := by
            intro q
            induction q with
            | zero => intro i _ h; omega
            | succ q ih =>
              intro i hi hq
              simp only [L5a.N, e28, e31, beq_self_eq_true, cond_true]
              by_cases h : i < R.length
              · rw [decide_eq_true (show (i : Int) < (R.length : Int) by omega), wrap_succ (n := R.length) (by omega) h]
                exact ih (i + 1) h (by omega)
              · rw [decide_eq_false (by omega)]; rfl
          unfold L5a.run
          first
            | exact key _ 0 (Nat.zero_le _) (by rw [e31]; omega)
            | exact key _ 0 (Nat.zero_le _) (by rw [e28]; omega)
        have b5 : L5b.run n g nb gb m 0 = .e1 := by
          have key : ∀ q i, i ≤ (r32.v n g nb gb m).length → (r32.v n g nb gb m).length - i < q → L5b.N n g nb gb m q (i : Int) = .e1 := by
            intro q
            induction q with
            | zero => intro i _ h; omega
            | succ q ih =>
              intro i hi hq
              simp only [L5b.N, c1, beq_self_eq_true, cond_true]
              by_cases h : i < (r32.v n g nb gb m).length
              · rw [decide_eq_true (show (i : Int) < ((r32.v n g nb gb m).length : Int) by omega), wrap_succ (n := (r32.v n g nb gb m).length) (by omega) h]
                exact ih (i + 1) h (by omega)
              · rw [decide_eq_false (by omega)]; rfl
          unfold L5b.run
          first
            | exact key _ 0 (Nat.zero_le _) (by omega)
            | exact key _ 0 (Nat.zero_le _) (by rw [c1]; omega)
        rw [e28', c2, e28, e31, c1, a5, b5]
        simp

end Go.Proofs.Ytgmppoappaolkaa

open Go

namespace Go.Proofs.Ytgmppoappaolkaa

open Go.ChangeShapes Go.WideShapes Go.ChangeAt Go.RowKit

set_option maxRecDepth 100000 in
theorem law5 (xs : List AV) (h : FitsA Try.prog 5 [39, 54, 3] xs) : Ret Try.prog 5 xs [] (.bool true) [] := by
  obtain ⟨x0, x1, x2, rfl, h0, h1, h2⟩ := fitsA3 h
  obtain ⟨n, g, hn, i0⟩ := arg_stands h0
  obtain ⟨nb, gb, hnb, i1⟩ := arg_blocks h1
  obtain ⟨m2, rfl⟩ := arg_int h2
  have := r5 n g hn nb gb hnb m2 []
  rw [r5_true hn hnb] at this
  exact this.imp (.cons i0 (.cons i1 (.cons (.refl _) .nil)))

set_option maxRecDepth 100000 in
theorem craneCovers_lifted (os : Os) (started : os.Started) (H : Type) (enc : TypeId × Value → H) :
    ReturnsInHanded {} Try.checked os 5 .any (Rows.craneCoversSpec.pre6 enc Try.prog Try.f5 Rows.craneCoversRow.domain false) (Rows.craneCoversSpec.post enc Try.prog Try.f5 false true false false) :=
  lifted (C := Try.checked) 5 own started (by kernel_rfl) Try.func5
    (ChangeSpec.witness6 (enc := enc) (C := Try.checked) false ⟨#[], #[.slice none 0 0, .slice none 0 0, .int .i64 0], []⟩ 8 (by kernel_rfl) (by kernel_rfl) (by kernel_rfl) (by kernel_rfl))
    rfl (fun ds hd => by
      match ds, hd with
      | [_, _, _], _ => rfl) (rt := 4) (by kernel_rfl) (by kernel_rfl) laidOut (by kernel_rfl) law5

theorem craneCovers_holds : Rows.CraneCoversSaid :=
  OpenClaim.holds_of_wide 5 Try.f5 rfl rfl rfl rfl rfl rfl rfl ⟨rfl, rfl, rfl, rfl, rfl⟩ rfl rfl rfl rfl rfl (by kernel_rfl) Try.func5 (by kernel_rfl)
    (of_decide_eq_true (by kernel_rfl)) (by unfold Func.isWrapper; first | (rw [if_pos (by decide +kernel)]; kernel_rfl) | (rw [if_neg (by decide +kernel)]; exact ⟨rfl, rfl⟩))
    (fun os started H enc _ => craneCovers_lifted os started H enc)

end Go.Proofs.Ytgmppoappaolkaa
