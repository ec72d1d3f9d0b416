/- The law of joints, in plain words. Conditions: none. -/
import Derived.Test.YtjdakdjgkpfjkaaD17
open Go
namespace Go.Proofs.Ytjdakdjgkpfjkaa
set_option linter.unusedVariables false
set_option linter.unusedSimpArgs false
variable {n : Nat} {g : Nat → PD} {j1 j2 : Int} {k : Nat} {p : Nat → PD} {f f2 : Nat → Int} {m m2 : Nat}

theorem L21_same (n : Nat) (f : Nat → Int) (hn : n ≤ 9223372036854775807) : ∀ m c, c ≤ n → n - c < m → L21a.N n f f m (c : Int) = .e1 := by
  intro m
  induction m with
  | zero => intro c _ h; omega
  | succ m ih =>
    intro c hc hm
    simp only [L21a.N, beq_self_eq_true, cond_true]
    by_cases h : c < n
    · rw [decide_eq_true (show (c : Int) < (n : Int) by omega), wrap_succ hn h]
      exact ih (c + 1) h (by omega)
    · rw [decide_eq_false (by omega)]
      rfl
theorem r21_same (l : List Int) (h : l.length ≤ 9223372036854775807) : r21.v l.length (fun i => l.getD i 0) l.length (fun i => l.getD i 0) = true := by
  unfold r21.v L21a.run
  have e := L21_same l.length (fun i => l.getD i 0) h (l.length + 1) 0 (Nat.zero_le _) (by omega)
  have e' : L21a.N l.length (fun i => l.getD i 0) (fun i => l.getD i 0) ((((l.length : Int) - 0).toNat) + 1) 0 = .e1 := by
    rw [show (((l.length : Int) - 0).toNat) + 1 = l.length + 1 by omega]; exact e
  rw [e']
  simp

theorem r5_true (hn : n ≤ 9223372036854775807) (hm : m ≤ 9223372036854775807) (hm2 : m2 ≤ 9223372036854775807) : r5.v n g j1 j2 k p m f m2 f2 = true := by
  unfold r5.v
  cases h12 : r12.v n k with
  | false => rfl
  | true =>
    simp only [cond_true]
    by_cases ha : (m : Int) > 40
    · rw [decide_eq_true ha]; rfl
    by_cases hb : (m2 : Int) > 40
    · rw [decide_eq_true hb]; cases decide ((m : Int) > 40) <;> rfl
    rw [decide_eq_false ha, decide_eq_false hb]
    simp only [cond_false]
    have hk := (bd12 h12).2
    rw [check_same hn (by omega)]
    cases hz : (r16.v n g j1 j2 k p == 0) with
    | false =>
      have e1 : r22.v1 n g j1 j2 k p m f = r16.v n g j1 j2 k p := by unfold r22.v1; rw [hz]; rfl
      have e2 : r22.v0 n g j1 j2 k p m f = [] := by unfold r22.v0; rw [hz]; rfl
      have e3 : r23.v1 n g j1 j2 k p m m2 = r16.v n g j1 j2 k p := by unfold r23.v1; rw [hz]; rfl
      have e4 : r23.v0 n g j1 j2 k p m f m2 f2 = false := by unfold r23.v0; rw [hz]; rfl
      rw [e1, e2, e3, e4]
      simp
    | true =>
      have hz' := eq_of_beq hz
      have hr := checked hn (by omega) hz'
      have hpos := hr.pos
      have hw : IntKind.i64.wrap ((n : Int) - 1) = (n : Int) - 1 := i64_small (by omega)
      simp only [cond_true]
      by_cases hmn : m = n
      · subst hmn
        rw [show ((m : Int) == (m : Int)) = true by simp]
        simp only [cond_true]
        have tail : (bif r25.v g m f then (bif r26.v1 m j1 j2 k p f then (bif r22.v1 m g j1 j2 k p m f == 0 then r21.v (r22.v0 m g j1 j2 k p m f).length (fun (i : Nat) => (r22.v0 m g j1 j2 k p m f).getD i 0) (r26.v0 m j1 j2 k p f).length fun (i : Nat) => (r26.v0 m j1 j2 k p f).getD i 0 else false) else (bif r22.v1 m g j1 j2 k p m f == 10 then (↑(r22.v0 m g j1 j2 k p m f).length : Int) == 0 else false)) else (bif r22.v1 m g j1 j2 k p m f == 6 then (↑(r22.v0 m g j1 j2 k p m f).length : Int) == 0 else false)) = true := by
          rw [r25_eq (by omega)]
          rcases r22_cases (f := f) hr hk hz' with ⟨a1, a2, a3⟩ | ⟨a1, a2, a3, a4⟩ | ⟨a1, a2, a3, a4⟩
          · rw [a1, a2, a3]; rfl
          · rcases r26_cases hr hk a1 with ⟨b1, b2, b3⟩ | ⟨b1, b2, b3⟩
            · rw [a1, a3, a4, b3]; rfl
            · obtain ⟨t, t1, t2⟩ := a2
              rw [b1 t t1] at t2; cases t2
          · rcases r26_cases hr hk a1 with ⟨b1, b2, b3⟩ | ⟨b1, b2, b3⟩
            · obtain ⟨t, t1, t2⟩ := b1
              rw [a2 t t1] at t2; cases t2
            · rw [a1, a3, a4, b2, b3]
              have := wLs_len0 (f := f) hr
              exact r21_same _ (by omega)
        by_cases hm2n : m2 = m - 1
        · subst hm2n
          obtain ⟨q1, q2⟩ := r23_eq (f := f) (f2 := f2) hr hk hz'
          rw [show (((m - 1 : Nat) : Int) == IntKind.i64.wrap ((m : Int) - 1)) = true by rw [hw]; exact beq_iff_eq.2 (by omega), q1, q2, r24_eq hr hk, beq_self_eq_true, beq_self_eq_true]
          exact tail
        · have hne : ((m2 : Int) == IntKind.i64.wrap ((m : Int) - 1)) = false := by rw [hw]; exact beq_eq_false_iff_ne.2 (by omega)
          have e3 : r23.v1 m g j1 j2 k p m m2 = 1 := by unfold r23.v1; rw [hz, hne]; simp
          have e4 : r23.v0 m g j1 j2 k p m f m2 f2 = false := by unfold r23.v0; rw [hz, hne]; simp
          rw [hne, e3, e4]
          exact tail
      · have hne : ((m : Int) == (n : Int)) = false := beq_eq_false_iff_ne.2 (by omega)
        have e1 : r22.v1 n g j1 j2 k p m f = 1 := by unfold r22.v1; rw [hz, hne]; rfl
        have e2 : r22.v0 n g j1 j2 k p m f = [] := by unfold r22.v0; rw [hz, hne]; rfl
        have e3 : r23.v1 n g j1 j2 k p m m2 = 1 := by unfold r23.v1; rw [hz, hne]; rfl
        have e4 : r23.v0 n g j1 j2 k p m f m2 f2 = false := by unfold r23.v0; rw [hz, hne]; rfl
        rw [hne, e1, e2, e3, e4]
        rfl
end Go.Proofs.Ytjdakdjgkpfjkaa
