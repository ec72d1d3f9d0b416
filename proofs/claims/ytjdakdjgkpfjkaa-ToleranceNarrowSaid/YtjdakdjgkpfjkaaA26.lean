/- Loops that search. Conditions: none. -/
import Derived.Test.YtjdakdjgkpfjkaaA25
import Derived.IntWalk
namespace Go.Proofs.Ytjdakdjgkpfjkaa
set_option linter.unusedVariables false
set_option linter.unusedSimpArgs false

/-- The first place from i on, within k places, where p holds. -/
def srch {O : Type} (p : Nat → Bool) (hit : Nat → O) (miss : O) : Nat → Nat → O
  | _, 0 => miss
  | i, k + 1 => bif p i then hit i else srch p hit miss (i + 1) k

theorem wrap_succ {n i : Nat} (hn : n ≤ 9223372036854775807) (h : i < n) : IntKind.i64.wrap ((i : Int) + 1) = ((i + 1 : Nat) : Int) := by
  rw [IntWalk.i64_in _ (by omega)]
  rfl

theorem search_eq {O : Type} {n : Nat} (p : Nat → Bool) (hit : Nat → O) (miss : O) {N : Nat → Int → O}
    (h1 : ∀ k i, i < n → N (k + 1) (i : Int) = bif p i then hit i else N k ((i + 1 : Nat) : Int)) (h2 : ∀ k, N (k + 1) (n : Int) = miss) :
    ∀ m i, i ≤ n → n - i < m → N m (i : Int) = srch p hit miss i (n - i) := by
  intro m
  induction m with
  | zero => intro i _ h; omega
  | succ m ih =>
    intro i hi hm
    rcases Nat.lt_or_ge i n with h | h
    · rw [h1 m i h, show n - i = (n - (i + 1)) + 1 by omega]
      simp only [srch]
      rw [ih (i + 1) h (by omega)]
    · have : i = n := by omega
      subst this
      rw [h2, Nat.sub_self]
      rfl

theorem srch_cases {O : Type} (p : Nat → Bool) (hit : Nat → O) (miss : O) : ∀ k i,
    ((∀ j, i ≤ j → j < i + k → p j = false) ∧ srch p hit miss i k = miss) ∨ ∃ j, i ≤ j ∧ j < i + k ∧ p j = true ∧ (∀ l, i ≤ l → l < j → p l = false) ∧ srch p hit miss i k = hit j := by
  intro k
  induction k with
  | zero => intro i; exact .inl ⟨fun j h1 h2 => by omega, rfl⟩
  | succ k ih =>
    intro i
    cases hp : p i with
    | true => exact .inr ⟨i, Nat.le_refl _, by omega, hp, fun l h1 h2 => by omega, by simp [srch, hp]⟩
    | false =>
      rcases ih (i + 1) with ⟨h1, h2⟩ | ⟨j, h1, h2, h3, h4, h5⟩
      · refine .inl ⟨fun j a b => ?_, by simp [srch, hp, h2]⟩
        rcases Nat.eq_or_lt_of_le a with e | e
        · subst e; exact hp
        · exact h1 j e (by omega)
      · refine .inr ⟨j, by omega, by omega, h3, fun l a b => ?_, by simp [srch, hp, h5]⟩
        rcases Nat.eq_or_lt_of_le a with e | e
        · subst e; exact hp
        · exact h4 l e b

/-- One of the first n. -/
def anyN (n : Nat) (p : Nat → Bool) : Bool := (List.range n).any p

theorem anyN_true {n : Nat} {p : Nat → Bool} : anyN n p = true ↔ ∃ i, i < n ∧ p i = true := by
  simp [anyN, List.any_eq_true]
theorem anyN_false {n : Nat} {p : Nat → Bool} : anyN n p = false ↔ ∀ i, i < n → p i = false := by
  simp [anyN, List.any_eq_false]
theorem anyN_congr {n : Nat} {p q : Nat → Bool} (h : ∀ i, i < n → p i = q i) : anyN n p = anyN n q := by
  cases hq : anyN n q with
  | true => obtain ⟨i, h1, h2⟩ := anyN_true.1 hq; exact anyN_true.2 ⟨i, h1, (h i h1).trans h2⟩
  | false => exact anyN_false.2 fun i hi => (h i hi).trans (anyN_false.1 hq i hi)

/-- A search whose answer does not tell the place. -/
theorem srch_any {O : Type} (p : Nat → Bool) (a b : O) (n : Nat) : srch p (fun _ => a) b 0 n = bif anyN n p then a else b := by
  rcases srch_cases p (fun _ => a) b n 0 with ⟨h1, h2⟩ | ⟨j, h1, h2, h3, h4, h5⟩
  · rw [h2, anyN_false.2 fun i hi => h1 i (Nat.zero_le _) (by omega)]; rfl
  · rw [h5, anyN_true.2 ⟨j, by omega, h3⟩]; rfl

end Go.Proofs.Ytjdakdjgkpfjkaa
