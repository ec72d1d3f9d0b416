/- The reference's Failing of a valid run, in plain words. Conditions: none. -/
import Derived.Test.YtjdakdjgkpfjkaaD9
import Derived.Test.YtjdakdjgkpfjkaaD18
open Go
namespace Go.Proofs.Ytjdakdjgkpfjkaa
set_option linter.unusedVariables false
set_option linter.unusedSimpArgs false
variable {n : Nat} {g : Nat → PD} {j1 j2 : Int} {k : Nat} {p : Nat → PD}

theorem outL_cons (b : Bool) (g : Nat → PD) {u w : Nat} (h : u < w) : outL b g u w = (bif b then (g u).hi else (g u).lo) :: outL b g (u + 1) w := by
  unfold outL
  rw [show w - u = (w - (u + 1)) + 1 by omega, List.range'_succ]
  rfl
theorem outL_nil (b : Bool) (g : Nat → PD) (u : Nat) : outL b g u u = [] := by
  unfold outL
  rw [show u - u = 0 by omega]
  rfl

theorem L20ab_run (i : Int) (w : Nat) (hw : w ≤ 512) (e : r43.v1 p i = w) : ∀ m (c v : Nat) l, c ≤ w → w - c < m → ∃ v', L20ab.N g p i m v l (c : Int) = .e0 v' (l ++ outL true g c w) := by
  intro m
  induction m with
  | zero => intro c v l _ h; omega
  | succ m ih =>
    intro c v l hc hm
    simp only [L20ab.N, e, Int.toNat_natCast]
    by_cases h : c < w
    · rw [decide_eq_true (show (c : Int) < (w : Int) by omega), wrap_succ (n := w) (by omega) h, outL_cons true g h]
      obtain ⟨v', q⟩ := ih (c + 1) (v + 1) (l ++ [(g c).hi]) h (by omega)
      exact ⟨v', by simp only [cond_true]; rw [q]; simp⟩
    · obtain rfl : c = w := by omega
      rw [decide_eq_false (by omega), outL_nil]
      exact ⟨v, by simp⟩
theorem L20abx_run (i : Int) (w : Nat) (hw : w ≤ 512) (e : r43.v1 p i = w) : ∀ m (c v : Nat) l, c ≤ w → w - c < m → ∃ v', L20abx.N g p i m v l (c : Int) = .e0 v' (l ++ outL false g c w) := by
  intro m
  induction m with
  | zero => intro c v l _ h; omega
  | succ m ih =>
    intro c v l hc hm
    simp only [L20abx.N, e, Int.toNat_natCast]
    by_cases h : c < w
    · rw [decide_eq_true (show (c : Int) < (w : Int) by omega), wrap_succ (n := w) (by omega) h, outL_cons false g h]
      obtain ⟨v', q⟩ := ih (c + 1) (v + 1) (l ++ [(g c).lo]) h (by omega)
      exact ⟨v', by simp only [cond_true]; rw [q]; simp⟩
    · obtain rfl : c = w := by omega
      rw [decide_eq_false (by omega), outL_nil]
      exact ⟨v, by simp⟩

theorem L20_cases (h : ROk n g j1 j2 k p) (hk : k ≤ 30) : ∀ m (c : Nat), c ≤ k → k - c < m → (∀ l, l < c → long n g j1 p l = false ∧ short n g j2 p l = false) →
    ((∀ i, i < k → long n g j1 p i = false ∧ short n g j2 p i = false) ∧ L20a.N n g j1 j2 k p m (c : Int) = .e1) ∨
    ∃ i v, i < k ∧ (long n g j1 p i || short n g j2 p i) = true ∧ (∀ l, l < i → long n g j1 p l = false ∧ short n g j2 p l = false) ∧
      L20a.N n g j1 j2 k p m (c : Int) = .e0 i v (outL (long n g j1 p i) g (pa p i) (pb p i)) := by
  intro m
  induction m with
  | zero => intro c _ h; omega
  | succ m ih =>
    intro c hc hm hb
    simp only [L20a.N]
    by_cases hlt : c < k
    · rw [decide_eq_true (show (c : Int) < (k : Int) by omega), wrap_succ (n := k) (by omega) hlt]
      simp only [cond_true]
      obtain ⟨e0, e1, e2, e3⟩ := r43_eq h hk hlt
      have hab := pab h.pl hlt
      have hn := h.le
      rw [e0, e1, e2, e3]
      obtain ⟨f0, f1⟩ := r44_eq h (u := pa p c) (w := pb p c) (by omega) (by omega)
      rw [f0, f1]
      have hg : ∀ i, pa p c ≤ i → i < pb p c → 0 ≤ (g i).lo ∧ (g i).lo ≤ 1000000 ∧ 0 ≤ (g i).hi ∧ (g i).hi ≤ 1000000 := fun i _ hi => by
        have := h.l1 i (by omega); have := h.l2 i (by omega); have := h.l3 i (by omega); omega
      have q1 := jn_bd2 h (u := pa p c) (w := pb p c) (by omega) (by omega) h.ja (by have := h.jb; have := h.jc; omega)
      have q2 := jn_bd2 h (u := pa p c) (w := pb p c) (by omega) (by omega) (j := j2) (by have := h.ja; have := h.jb; omega) h.jc
      have b1 := sumB_bd (f := fun i => (g i).lo) (u := pa p c) (b := 1000000) (pb p c - pa p c) fun i a b => ⟨(hg i a (by omega)).1, (hg i a (by omega)).2.1⟩
      have b2 := sumB_bd (f := fun i => (g i).hi) (u := pa p c) (b := 1000000) (pb p c - pa p c) fun i a b => ⟨(hg i a (by omega)).2.2.1, (hg i a (by omega)).2.2.2⟩
      have s1 : sLo g (pa p c) (pb p c) = sumB (fun i => (g i).lo) (pa p c) (pb p c - pa p c) := rfl
      have s2 : sHi g (pa p c) (pb p c) = sumB (fun i => (g i).hi) (pa p c) (pb p c - pa p c) := rfl
      rw [i64_small (x := jn n (pa p c) (pb p c) * j1) (by omega), i64_small (x := jn n (pa p c) (pb p c) * j2) (by omega), i64_small (by omega), i64_small (by omega)]
      cases hL : long n g j1 p c with
      | true =>
        have hL' := hL
        unfold long at hL'
        rw [hL']
        simp only [cond_true]
        obtain ⟨v', q⟩ := L20ab_run (g := g) (p := p) c (pb p c) (by omega) e1 (pb p c - pa p c + 1) (pa p c) 0 [] (by omega) (by omega)
        have q' : L20ab.run g p c 0 [] (pa p c) = .e0 v' (outL true g (pa p c) (pb p c)) := by
          unfold L20ab.run
          rw [e1, show ((pb p c : Int) - (pa p c : Int)).toNat = pb p c - pa p c by omega]
          simpa using q
        rw [q']
        exact .inr ⟨c, v', hlt, by rw [hL]; rfl, hb, by rw [hL]⟩
      | false =>
        have hL' := hL
        unfold long at hL'
        rw [hL']
        simp only [cond_false]
        cases hS : short n g j2 p c with
        | true =>
          have hS' := hS
          unfold short at hS'
          have hS' := of_decide_eq_true hS'
          rw [decide_eq_false (by omega)]
          simp only [cond_false]
          obtain ⟨v', q⟩ := L20abx_run (g := g) (p := p) c (pb p c) (by omega) e1 (pb p c - pa p c + 1) (pa p c) 0 [] (by omega) (by omega)
          have q' : L20abx.run g p c 0 [] (pa p c) = .e0 v' (outL false g (pa p c) (pb p c)) := by
            unfold L20abx.run
            rw [e1, show ((pb p c : Int) - (pa p c : Int)).toNat = pb p c - pa p c by omega]
            simpa using q
          rw [q']
          exact .inr ⟨c, v', hlt, by rw [hS]; simp, hb, by rw [hL]⟩
        | false =>
          have hS' := hS
          unfold short at hS'
          have hS' := of_decide_eq_false hS'
          rw [decide_eq_true (by omega)]
          simp only [cond_true]
          exact ih (c + 1) hlt (by omega) fun l hl => by
            by_cases e : l = c
            · subst e; exact ⟨hL, hS⟩
            · exact hb l (by omega)
    · obtain rfl : c = k := by omega
      rw [decide_eq_false (by omega)]
      exact .inl ⟨hb, rfl⟩

theorem r20_cases (h : ROk n g j1 j2 k p) (hk : k ≤ 30) :
    ((∀ i, i < k → long n g j1 p i = false ∧ short n g j2 p i = false) ∧ r20.v0 n g j1 j2 k p = -1 ∧ r20.v1 n g j1 j2 k p = []) ∨
    ∃ i, i < k ∧ (long n g j1 p i || short n g j2 p i) = true ∧ (∀ l, l < i → long n g j1 p l = false ∧ short n g j2 p l = false) ∧
      r20.v0 n g j1 j2 k p = i ∧ r20.v1 n g j1 j2 k p = outL (long n g j1 p i) g (pa p i) (pb p i) := by
  unfold r20.v0 r20.v1 L20a.run
  have e0 : ((k : Int) - (0 : Int)).toNat + 1 = k + 1 := by omega
  rcases L20_cases h hk (k + 1) 0 (Nat.zero_le _) (by omega) (fun l hl => by omega) with ⟨a1, a2⟩ | ⟨i, v, a1, a2, a3, a4⟩
  · rw [e0, show (0 : Int) = ((0 : Nat) : Int) from rfl, a2]; exact .inl ⟨a1, rfl, rfl⟩
  · rw [e0, show (0 : Int) = ((0 : Nat) : Int) from rfl, a4]; exact .inr ⟨i, a1, a2, a3, rfl, rfl⟩

/-- The lengths of what Failing hands back. -/
theorem outL_length (b : Bool) (g : Nat → PD) (u w : Nat) : (outL b g u w).length = w - u := by simp [outL]
theorem bd19 (h : ROk n g j1 j2 k p) (hk : k ≤ 30) (hz : r16.v n g j1 j2 k p = 0) : (r19.v1 n g j1 j2 k p).length ≤ 512 := by
  rcases r19_cases h hk hz with ⟨_, _, e, _⟩ | ⟨i, hi, _, _, _, e, _⟩
  · rw [e]; simp
  · rw [e, outL_length]
    have := pab h.pl hi
    have := h.le
    omega
theorem bd19' (h : ROk n g j1 j2 k p) (hk : k ≤ 30) (hn : n ≤ 9223372036854775807) (hz : r15.v n g j1 j2 k p = 0) : (r19.v1 n g j1 j2 k p).length ≤ 512 :=
  bd19 h hk (by rw [← check_same hn (by omega)]; exact hz)
end Go.Proofs.Ytjdakdjgkpfjkaa
