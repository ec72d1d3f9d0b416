/- Plain laws: names and stands are checked alike by both. Conditions: none. -/
import Derived.Test.YtgmppoappaolkaaD15
open Go
namespace Go.Proofs.Ytgmppoappaolkaa

def ok66 (c : Int) : Bool := !((decide (c < 97) || decide (c > 122)) && (decide (c < 48) || decide (c > 57)) && !(c == 95))

theorem L66_run {s : ByteArray} (hs : s.size ≤ 9223372036854775807) : L66.run s 0 = srch (fun i => !ok66 (sbyte s i)) (fun _ => L66.O.e0) .e1 0 s.size := by
  have := search_eq (n := s.size) (fun i => !ok66 (sbyte s i)) (fun _ => L66.O.e0) .e1 (N := L66.N s) (fun k i h => by
    simp only [L66.N, wrap_succ hs h, Int.toNat_natCast]; rw [decide_eq_true (by omega)]
    unfold ok66
    cases decide (sbyte s i < 97) <;> cases decide (sbyte s i > 122) <;> cases decide (sbyte s i < 48) <;> cases decide (sbyte s i > 57) <;> cases (sbyte s i == 95) <;> rfl) (fun k => by simp [L66.N]) (s.size + 1) 0 (Nat.zero_le _) (by omega)
  simpa [L66.run, L66.mu] using this

theorem L74_run {s : ByteArray} (hs : s.size ≤ 9223372036854775807) : L74.run s 0 = srch (fun i => !r75.v (sbyte s i)) (fun i => L74.O.e0 i) (.e0 s.size) 0 s.size := by
  have := search_eq (n := s.size) (fun i => !r75.v (sbyte s i)) (fun i => L74.O.e0 i) (.e0 s.size) (N := L74.N s) (fun k i h => by
    simp only [L74.N, wrap_succ hs h, Int.toNat_natCast]; rw [decide_eq_true (by omega)]
    cases r75.v (sbyte s i) <;> rfl) (fun k => by simp [L74.N]) (s.size + 1) 0 (Nat.zero_le _) (by omega)
  simpa [L74.run, L74.mu] using this

theorem r75_all : ((List.range 256).all fun c => r75.v (c : Int) == ok66 (c : Int)) = true := by kernel_rfl
theorem r75_ok {c : Int} (h0 : 0 ≤ c) (h1 : c ≤ 255) : r75.v c = ok66 c := by
  have := List.all_eq_true.1 r75_all c.toNat (List.mem_range.2 (by omega))
  have e : ((c.toNat : Nat) : Int) = c := Int.toNat_of_nonneg h0
  rw [e] at this
  exact eq_of_beq this

theorem name_eq {s : ByteArray} (hs : s.size ≤ 9223372036854775807) : r63.v s = r66.v s := by
  unfold r63.v r66.v r74.v
  rw [L66_run hs, L74_run hs]
  have hp : (fun i => !r75.v (sbyte s i)) = fun i => !ok66 (sbyte s i) := by
    funext i
    rw [r75_ok (sbyte_bd s i).1 (sbyte_bd s i).2]
  rw [hp]
  have h1 : (s.toList == (ByteArray.mk #[]).toList) = decide ((s.size : Int) < 1) := by
    cases h : (s.toList == (ByteArray.mk #[]).toList) with
    | true => rw [str_eq h]; rfl
    | false => have := str_pos h; exact (decide_eq_false (by omega)).symm
  rw [h1]
  have h2 : ((match srch (fun i => !ok66 (sbyte s i)) (fun i => L74.O.e0 i) (.e0 s.size) 0 s.size with | .e0 a => a) == (s.size : Int)) = (match srch (fun i => !ok66 (sbyte s i)) (fun _ => L66.O.e0) .e1 0 s.size with | .e0 => false | .e1 => true) := by
    rw [srch_any]
    rcases srch_cases (fun i => !ok66 (sbyte s i)) (fun i => L74.O.e0 i) (.e0 s.size) s.size 0 with ⟨a1, a2⟩ | ⟨j, a1, a2, a3, a4, a5⟩
    · rw [a2, anyN_false.2 fun i hi => a1 i (Nat.zero_le _) (by omega)]; simp
    · rw [a5, anyN_true.2 ⟨j, by omega, a3⟩]
      have : ((j : Int) == (s.size : Int)) = false := by rw [beq_eq_false_iff_ne]; omega
      simpa using this
  simp only [h2]
  rfl

def badR (s : SD) (i : Nat) : Bool := decide (s.r i < 1) || decide (s.r i > 500000) || decide (s.l i < 0) || decide (s.l i > 1000000000000000) || (decide (0 < i) && (decide (s.r (i - 1) ≥ s.r i) || decide (s.l i > s.l (i - 1))))

theorem wrap_pred {n i : Nat} (hn : n ≤ 9223372036854775807) (h : i < n) (h0 : 0 < i) : (IntKind.i64.wrap ((i : Int) - 1)).toNat = i - 1 := by
  rw [IntWalk.i64_in _ (by omega)]
  omega

theorem L65_run (s : SD) : L65.run s 0 = srch (badR s) (fun _ => L65.O.e0) .e1 0 s.nr := by
  have := search_eq (n := s.nr) (badR s) (fun _ => L65.O.e0) .e1 (N := L65.N s) (fun k i h => by
    simp only [L65.N, wrap_succ s.hnr h, Int.toNat_natCast]; rw [decide_eq_true (by omega)]
    unfold badR
    rcases Nat.eq_zero_or_pos i with e | e
    · subst e
      rw [decide_eq_false (show ¬ ((0 : Nat) : Int) > 0 by decide), decide_eq_false (show ¬ 0 < 0 by decide)]
      cases decide (s.r 0 < 1) <;> cases decide (s.r 0 > 500000) <;> cases decide (s.l 0 < 0) <;> cases decide (s.l 0 > 1000000000000000) <;> rfl
    · rw [decide_eq_true (show (i : Int) > 0 by omega), decide_eq_true e, wrap_pred s.hnr h e]
      cases decide (s.r i < 1) <;> cases decide (s.r i > 500000) <;> cases decide (s.l i < 0) <;> cases decide (s.l i > 1000000000000000) <;> cases decide (s.r (i - 1) ≥ s.r i) <;> cases decide (s.l i > s.l (i - 1)) <;> rfl) (fun k => by simp [L65.N]) (s.nr + 1) 0 (Nat.zero_le _) (by omega)
  simpa [L65.run, L65.mu] using this

theorem L67_run (s : SD) : L67.run s 0 = srch (badR s) (fun _ => L67.O.e0) .e1 0 s.nr := by
  have := search_eq (n := s.nr) (badR s) (fun _ => L67.O.e0) .e1 (N := L67.N s) (fun k i h => by
    simp only [L67.N, wrap_succ s.hnr h, Int.toNat_natCast]; rw [decide_eq_true (by omega)]
    unfold badR
    rcases Nat.eq_zero_or_pos i with e | e
    · subst e
      rw [decide_eq_false (show ¬ ((0 : Nat) : Int) > 0 by decide), decide_eq_false (show ¬ 0 < 0 by decide)]
      cases decide (s.r 0 < 1) <;> cases decide (s.r 0 > 500000) <;> cases decide (s.l 0 < 0) <;> cases decide (s.l 0 > 1000000000000000) <;> rfl
    · rw [decide_eq_true (show (i : Int) > 0 by omega), decide_eq_true e, wrap_pred s.hnr h e]
      show _ = bif (_ || _ || _ || _ || (_ && (_ || decide (s.l (i - 1) < s.l i)))) then _ else _
      cases decide (s.r i < 1) <;> cases decide (s.r i > 500000) <;> cases decide (s.l i < 0) <;> cases decide (s.l i > 1000000000000000) <;> cases decide (s.r (i - 1) ≥ s.r i) <;> cases decide (s.l (i - 1) < s.l i) <;> rfl) (fun k => by simp [L67.N]) (s.nr + 1) 0 (Nat.zero_le _) (by omega)
  simpa [L67.run, L67.mu] using this

theorem num_eq (s : SD) : r65.v s = !r67.v s := by
  have e42 : r42.v = r39.v := rfl
  unfold r65.v r67.v r15.v
  rw [L65_run, L67_run, srch_any, srch_any, e42]
  cases r39.v s.x <;> cases r39.v s.y <;> cases anyN s.nr (badR s) <;> rfl

variable {n : Nat} {g : Nat → SD}
theorem L44a_run (hn : n ≤ 9223372036854775807) : L44a.run n g 0 = bif anyN n (fun i => r62.v (g i)) then .e0 else .e1 := by
  have := search_eq (n := n) (fun i => r62.v (g i)) (fun _ => L44a.O.e0) .e1 (N := L44a.N n g) (fun k i h => by
    simp only [L44a.N, wrap_succ hn h, Int.toNat_natCast]; rw [decide_eq_true (by omega)]
    unfold r62.v
    rw [name_eq (g i).hnm]
    cases r66.v (g i).nm <;> rfl) (fun k => by simp [L44a.N]) (n + 1) 0 (Nat.zero_le _) (by omega)
  rw [Nat.sub_zero, srch_any] at this
  simpa [L44a.run, L44a.mu] using this
theorem L44b_run (hn : n ≤ 9223372036854775807) : L44b.run n g 0 = bif anyN n (fun i => r64.v (g i)) then .e0 else .e1 := by
  have := search_eq (n := n) (fun i => r64.v (g i)) (fun _ => L44b.O.e0) .e1 (N := L44b.N n g) (fun k i h => by
    simp only [L44b.N, wrap_succ hn h, Int.toNat_natCast]; rw [decide_eq_true (by omega)]
    unfold r64.v
    show _ = bif (bif _ then _ else (bif _ then _ else !(((g i).nl : Int) == ((g i).nr : Int)))) then _ else _
    cases decide (((g i).nr : Int) < 1) <;> cases decide (((g i).nr : Int) > 16) <;> cases (((g i).nl : Int) == ((g i).nr : Int)) <;> rfl) (fun k => by simp [L44b.N]) (n + 1) 0 (Nat.zero_le _) (by omega)
  rw [Nat.sub_zero, srch_any] at this
  simpa [L44b.run, L44b.mu] using this
theorem L44c_run (hn : n ≤ 9223372036854775807) : L44c.run n g 0 = bif anyN n (fun i => r65.v (g i)) then .e0 else .e1 := by
  have := search_eq (n := n) (fun i => r65.v (g i)) (fun _ => L44c.O.e0) .e1 (N := L44c.N n g) (fun k i h => by
    simp only [L44c.N, wrap_succ hn h, Int.toNat_natCast]; rw [decide_eq_true (by omega), num_eq]
    cases r67.v (g i) <;> rfl) (fun k => by simp [L44c.N]) (n + 1) 0 (Nat.zero_le _) (by omega)
  rw [Nat.sub_zero, srch_any] at this
  simpa [L44c.run, L44c.mu] using this

theorem ok44 (hn : n ≤ 9223372036854775807) (h : L44b.run n g 0 = .e1) : ∀ i, i < n → (g i).nl = (g i).nr := by
  intro i hi
  rw [L44b_run hn] at h
  cases hb : anyN n (fun i => r64.v (g i)) with
  | true => rw [hb] at h; cases h
  | false => exact (r64_false (anyN_false.1 hb i hi)).2.2

theorem r43_any (hn : n ≤ 9223372036854775807) : r43.v n g = bif anyN n (fun i => r62.v (g i)) then 4 else bif anyN n (fun i => r64.v (g i)) then 1 else bif anyN n (fun i => r65.v (g i)) then 6 else 0 := by
  unfold r43.v
  rw [r61a_any hn, r61b_any hn, r61c_any hn]

theorem ok43 {s : SD} (h : (r43.v 1 (fun _ => s) == 0) = true) : s.nl = s.nr ∧ 1 ≤ s.nr ∧ s.nr ≤ 16 := by
  have h := eq_of_beq h
  rw [r43_any (by decide)] at h
  obtain ⟨_, h⟩ := bif_else h (by decide)
  obtain ⟨h2, _⟩ := bif_else h (by decide)
  have := r64_false (anyN_false.1 h2 0 (by decide))
  exact ⟨this.2.2, this.1, this.2.1⟩
theorem ok43' {s : SD} (h : (r43.v 1 (fun _ => s) == 0) = true) : s.nl = s.nr := (ok43 h).1
end Go.Proofs.Ytgmppoappaolkaa
