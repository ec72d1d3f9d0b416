/- The law of the greatest, in plain words. Conditions: none. -/
import Derived.Test.YtjdakdjgkpfjkaaD22
import Derived.Test.YtjdakdjgkpfjkaaD19
open Go
namespace Go.Proofs.Ytjdakdjgkpfjkaa
set_option linter.unusedVariables false
set_option linter.unusedSimpArgs false
variable {m : Nat} {f : Nat → Int} {j1 j2 : Int} {k : Nat} {p : Nat → PD}

/-- A tolerance at which the run closes. -/
noncomputable def good (m : Nat) (f : Nat → Int) (j1 j2 : Int) (k : Nat) (p : Nat → PD) (t : Int) : Bool :=
  bif r18.v1 m (W m f t) j1 j2 k p == 0 then r18.v0 m (W m f t) j1 j2 k p else false
theorem good_eq (hm : m ≤ 9223372036854775807) (hk : k ≤ 30) (t : Int) :
    good m f j1 j2 k p t = bif r15.v m (W m f t) j1 j2 k p == 0 then r53.v m (W m f t) j1 j2 k p else false := by
  unfold good
  rw [check_same hm (by omega)]
  cases hz : (r16.v m (W m f t) j1 j2 k p == 0) with
  | false =>
    have e1 : r18.v1 m (W m f t) j1 j2 k p = r16.v m (W m f t) j1 j2 k p := by unfold r18.v1; rw [hz]; rfl
    rw [e1, hz]
    rfl
  | true =>
    have hz' : r16.v m (W m f t) j1 j2 k p = 0 := eq_of_beq hz
    have hr := checked hm (by omega) hz'
    have e1 : r18.v1 m (W m f t) j1 j2 k p = 0 := by unfold r18.v1; rw [hz]; rfl
    have e2 : r18.v0 m (W m f t) j1 j2 k p = decide (r41.v0 m (W m f t) j1 j2 k p < 0) := by unfold r18.v0; rw [hz]; rfl
    rw [e1, e2]
    simp only [beq_self_eq_true, cond_true]
    unfold r53.v
    rcases r20_cases hr hk with ⟨a1, a2, a3⟩ | ⟨i, a1, a2, a3, a4, a5⟩
    · rcases r41_cases hr hk with ⟨_, b2, _⟩ | ⟨i, b1, b2, _⟩
      · rw [b2, a2]
      · have := a1 i b1; rw [this.1, this.2] at b2; cases b2
    · rcases r41_cases hr hk with ⟨b1, _⟩ | ⟨i', b1, b2, b3, b4, _⟩
      · have := b1 i a1; rw [this.1, this.2] at a2; cases a2
      · rw [b4, a4, decide_eq_false (by omega), decide_eq_false (by omega)]

def top (P : Nat → Bool) : Nat → Option Nat
  | 0 => none
  | c + 1 => if P c then some c else top P c

theorem L27_down (h0 : 0 < m) (hm : m ≤ 30) : ∀ c q, c ≤ 101 → c < q →
    L27a.N m f j1 j2 k p q ((c : Int) - 1) = match top (fun t => good m f j1 j2 k p t) c with | some t => .e0 t | none => .e1 := by
  intro c
  induction c with
  | zero =>
    intro q _ hq
    obtain ⟨q, rfl⟩ : ∃ q', q = q' + 1 := ⟨q - 1, by omega⟩
    simp only [L27a.N, top]
    rw [decide_eq_false (by omega)]
    rfl
  | succ c ih =>
    intro q hc hq
    obtain ⟨q, rfl⟩ : ∃ q', q = q' + 1 := ⟨q - 1, by omega⟩
    simp only [L27a.N]
    rw [show ((c + 1 : Nat) : Int) - 1 = (c : Int) by omega, decide_eq_true (by omega)]
    obtain ⟨v, L, e1, e2, e3⟩ := L27_eq m f c (by omega)
    rw [e1]
    have hW : rget L = W m f c := W_eq h0 e2 e3
    simp only [cond_true, e2, hW]
    have hP : good m f j1 j2 k p (c : Int) = bif r18.v1 m (W m f c) j1 j2 k p == 0 then r18.v0 m (W m f c) j1 j2 k p else false := rfl
    rw [i64_small (by omega)]
    have hi := ih q (by omega) (by omega)
    cases h1 : (r18.v1 m (W m f c) j1 j2 k p == 0) with
    | false =>
      rw [h1] at hP
      simp only [cond_false] at hP ⊢
      rw [hi]
      simp only [top, hP]
      rfl
    | true =>
      rw [h1] at hP
      simp only [cond_true] at hP ⊢
      cases h2 : r18.v0 m (W m f c) j1 j2 k p with
      | false =>
        rw [h2] at hP
        simp only [cond_false]
        rw [hi]
        simp only [top, hP]
        rfl
      | true =>
        rw [h2] at hP
        simp only [top, hP, cond_true]
        rfl

def topI (P : Nat → Bool) (c : Nat) : Int := match top P c with | some t => t | none => -1
theorem L29_up (hm : m ≤ 512) (hk : k ≤ 30) : ∀ d c q, c + d = 101 → d < q →
    L29a.N m f j1 j2 k p q (topI (fun t => good m f j1 j2 k p t) c) (c : Int) = .e0 (topI (fun t => good m f j1 j2 k p t) 101) := by
  intro d
  induction d with
  | zero =>
    intro c q hc hq
    obtain ⟨q, rfl⟩ : ∃ q', q = q' + 1 := ⟨q - 1, by omega⟩
    obtain rfl : c = 101 := by omega
    simp only [L29a.N]
    rw [decide_eq_false (by omega)]
    rfl
  | succ d ih =>
    intro c q hc hq
    obtain ⟨q, rfl⟩ : ∃ q', q = q' + 1 := ⟨q - 1, by omega⟩
    simp only [L29a.N]
    rw [decide_eq_true (by omega), wrap_succ (n := 101) (by omega) (by omega)]
    have hi := ih (c + 1) q (by omega) (by omega)
    have hP := good_eq (m := m) (f := f) (j1 := j1) (j2 := j2) (k := k) (p := p) (by omega) hk (c : Int)
    cases h1 : (r15.v m (W m f c) j1 j2 k p == 0) with
    | false =>
      rw [h1] at hP
      simp only [cond_false, cond_true] at hP ⊢
      rw [← hi]
      simp only [topI, top, hP]
      rfl
    | true =>
      rw [h1] at hP
      simp only [cond_true] at hP ⊢
      cases h2 : r53.v m (W m f c) j1 j2 k p with
      | false =>
        rw [h2] at hP
        simp only [cond_false]
        rw [← hi]
        simp only [topI, top, hP]
        rfl
      | true =>
        rw [h2] at hP
        simp only [cond_true]
        rw [← hi]
        simp only [topI, top, hP]
        rfl

/-! ### The checks -/
theorem r50_any (hm : m ≤ 9223372036854775807) : r50.v m f = anyN m fun i => r51.v (f i) := by
  have run : L62a.run m f 0 = srch (fun i => r51.v (f i)) (fun i => .e0 i) .e1 0 m := by
    have := search_eq (n := m) (fun i => r51.v (f i)) (fun i => L62a.O.e0 i) .e1 (N := L62a.N m f) (fun k i h => by
      simp only [L62a.N, wrap_succ hm h, Int.toNat_natCast]; rw [decide_eq_true (by omega)]; rfl) (fun k => by simp [L62a.N]) (m + 1) 0 (Nat.zero_le _) (by omega)
    simpa [L62a.run, L62a.mu] using this
  unfold r50.v r62.v
  rw [run]
  rcases srch_cases (fun i => r51.v (f i)) (fun i => L62a.O.e0 i) .e1 m 0 with ⟨h1, h2⟩ | ⟨j, h1, h2, h3, h4, h5⟩
  · rw [h2, anyN_false.2 fun i hi => h1 i (Nat.zero_le _) (by omega)]; rfl
  · rw [h5, anyN_true.2 ⟨j, by omega, h3⟩]; simp
theorem r37_W (hm : m ≤ 9223372036854775807) (hf : ∀ i, i < m → -9223372036854775808 ≤ f i ∧ f i ≤ 9223372036854775807) : r37.v m (W m f 0) = r50.v m f := by
  rw [r37_any hm, r50_any hm]
  refine anyN_congr fun i hi => ?_
  have := hf i hi
  unfold r38.v r51.v W wid
  rw [if_pos hi]
  simp only
  rw [show f i - 0 = f i by omega, show f i + 0 = f i by omega, i64_small (by omega)]
  rw [decide_eq_false (show ¬ f i > f i by omega)]
  rfl

theorem r6_true (hf : ∀ i, i < m → -9223372036854775808 ≤ f i ∧ f i ≤ 9223372036854775807) : r6.v m f j1 j2 k p = true := by
  unfold r6.v
  by_cases h1 : (m : Int) > 30
  · rw [decide_eq_true h1]; rfl
  rw [decide_eq_false h1]
  by_cases h2 : (k : Int) > 30
  · rw [decide_eq_true h2]; rfl
  rw [decide_eq_false h2]
  simp only [cond_false]
  have e15 : r15.v m (W m f 0) j1 j2 k p = bif r36.v (m : Int) == 0 then (bif r50.v m f then 6 else (bif r39.v j1 j2 then r40.v k p (m : Int) else 6)) else r36.v (m : Int) := by
    rw [check_same (by omega) (by omega)]
    unfold r16.v
    rw [r37_W (by omega) hf]
  have goal : r27.v0 m f j1 j2 k p = r29.v0 m f j1 j2 k p ∧ r27.v1 m f j1 j2 k p = r29.v1 m f j1 j2 k p := by
    unfold r27.v0 r27.v1 r29.v0 r29.v1
    rw [e15]
    cases a1 : (r36.v (m : Int) == 0) with
    | false => simp [a1]
    | true =>
      have hpos : 0 < m := by
        rcases Nat.eq_zero_or_pos m with e | e
        · subst e; simp [r36.v] at a1
        · exact e
      simp only [cond_true]
      cases a2 : r50.v m f with
      | true => simp
      | false =>
        simp only [cond_false]
        cases a3 : r39.v j1 j2 with
        | false => simp
        | true =>
          simp only [cond_true]
          cases a4 : (r40.v k p (m : Int) == 0) with
          | false => simp
          | true =>
            have d := L27_down (f := f) (j1 := j1) (j2 := j2) (k := k) (p := p) hpos (by omega) 101 102 (by omega) (by omega)
            have d' : L27a.run m f j1 j2 k p 100 = match top (fun t => good m f j1 j2 k p t) 101 with | some t => .e0 t | none => .e1 := d
            have u := L29_up (m := m) (f := f) (j1 := j1) (j2 := j2) (k := k) (p := p) (by omega) (by omega) 101 0 102 (by omega) (by omega)
            have u' : L29a.run m f j1 j2 k p (-1) 0 = .e0 (topI (fun t => good m f j1 j2 k p t) 101) := u
            cases ht : top (fun t => good m f j1 j2 k p t) 101 with
            | none =>
              have d2 : L27a.run m f j1 j2 k p 100 = .e1 := by rw [d', ht]
              have u2 : L29a.run m f j1 j2 k p (-1) 0 = .e0 (-1) := by rw [u']; unfold topI; rw [ht]
              rw [d2, u2]
              simp
            | some t =>
              have d2 : L27a.run m f j1 j2 k p 100 = .e0 t := by rw [d', ht]
              have u2 : L29a.run m f j1 j2 k p (-1) 0 = .e0 t := by rw [u']; unfold topI; rw [ht]
              rw [d2, u2]
              simp [show ¬ ((t : Int) < 0) by omega]
  rw [goal.1, goal.2]
  simp
end Go.Proofs.Ytjdakdjgkpfjkaa
