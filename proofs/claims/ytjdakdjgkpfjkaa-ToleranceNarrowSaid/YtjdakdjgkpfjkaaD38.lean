/- The law of narrower intervals, in plain words. Conditions: none. -/
import Derived.Test.YtjdakdjgkpfjkaaD37
import Derived.Test.YtjdakdjgkpfjkaaD13
open Go
namespace Go.Proofs.Ytjdakdjgkpfjkaa
set_option linter.unusedVariables false
set_option linter.unusedSimpArgs false
variable {n : Nat} {g G : Nat → PD} {j1 j2 : Int} {k : Nat} {p : Nat → PD} {m : Nat} {f F : Nat → Int}

/-- A valid run with other intervals is valid. -/
theorem r16_other (hn : n ≤ 9223372036854775807) (h : r16.v n g j1 j2 k p = 0) (hG : ∀ i, i < n → 1 ≤ (G i).lo ∧ (G i).lo ≤ (G i).hi ∧ (G i).hi ≤ 1000000) : r16.v n G j1 j2 k p = 0 := by
  have e : anyN n (fun i => r38.v (G i)) = false := anyN_false.2 fun i hi => by
    obtain ⟨a, b, c⟩ := hG i hi
    unfold r38.v
    rw [decide_eq_false (by omega), decide_eq_false (by omega), decide_eq_false (by omega)]; rfl
  unfold r16.v at h ⊢
  rw [r37_any hn] at h ⊢
  rw [e]
  cases h1 : (r36.v (n : Int) == 0) with
  | false => rw [h1] at h; exact h
  | true =>
    rw [h1] at h
    cases h2 : anyN n (fun i => r38.v (g i)) with
    | true => rw [h2] at h; simp at h
    | false => rw [h2] at h; exact h

theorem L8_eq (hn : n ≤ 9223372036854775807) : ∀ q c v al v2 al2, c ≤ n → n - c < q → al.length = c → (∀ i, i < c → rget al i = ⟨pk g m f i, (g i).hi⟩) → al2.length = c → (∀ i, i < c → rget al2 i = ⟨pk g m f i, pk g m f i⟩) →
    ∃ v' L v2' L2, L8a.N n g m f q (c : Int) v al v2 al2 = .e0 v' L v2' L2 ∧ (L.length = n ∧ ∀ i, i < n → rget L i = ⟨pk g m f i, (g i).hi⟩) ∧ L2.length = n ∧ ∀ i, i < n → rget L2 i = ⟨pk g m f i, pk g m f i⟩ := by
  intro q
  induction q with
  | zero => intro c v al v2 al2 _ h; omega
  | succ q ih =>
    intro c v al v2 al2 hc hq hl hf hl2 hf2
    simp only [L8a.N, Int.toNat_natCast]
    by_cases e : c < n
    · rw [decide_eq_true (show (c : Int) < (n : Int) by omega), wrap_succ hn e]
      simp only [cond_true]
      refine ih (c + 1) (v + 1) _ (v2 + 1) _ e (by omega) (by simp [hl]) (fun i hi => ?_) (by simp [hl2]) (fun i hi => ?_)
      · by_cases e2 : i = c
        · subst e2; rw [← hl]; exact rget_last _ _
        · rw [rget_init _ _ (by omega)]; exact hf i (by omega)
      · by_cases e2 : i = c
        · subst e2; rw [← hl2]; exact rget_last _ _
        · rw [rget_init _ _ (by omega)]; exact hf2 i (by omega)
    · obtain rfl : c = n := by omega
      rw [decide_eq_false (by omega)]
      exact ⟨v, al, v2, al2, rfl, ⟨hl, hf⟩, hl2, hf2⟩

theorem r8_true (hn : n ≤ 9223372036854775807) : r8.v n g j1 j2 k p m f = true := by
  unfold r8.v
  cases h12 : r12.v n k with
  | false => rfl
  | true =>
    simp only [cond_true]
    have hk := (bd12 h12).2
    rcases r18_cases (n := n) (g := g) (j1 := j1) (j2 := j2) (p := p) hn hk with ⟨a, b, _⟩ | ⟨hr, hz, b, c⟩
    · rw [show (r18.v1 n g j1 j2 k p == 0) = false from beq_eq_false_iff_ne.2 b, a]; rfl
    · rw [b]
      simp only [beq_self_eq_true, cond_true]
      obtain ⟨v1, L1, v2, L2, e0, ⟨e1, e2⟩, e3, e4⟩ := L8_eq (g := g) (m := m) (f := f) hn ((((n : Int) - 0)).toNat + 1) 0 0 [] 0 [] (Nat.zero_le _) (by omega) rfl (fun i h => by omega) rfl (fun i h => by omega)
      have e0' : L8a.run n g m f 0 0 [] 0 [] = .e0 v1 L1 v2 L2 := e0
      rw [e0']
      simp only [e1, e3]
      have hpk : ∀ i, i < n → (g i).lo ≤ pk g m f i ∧ pk g m f i ≤ (g i).hi := fun i hi => pk_bd hr hi
      have ho : okL g n (pk g m f) = true := okL_intro hpk
      generalize pk g m f = F at e2 e4 hpk ho ⊢
      have z1 : r16.v n (rget L1) j1 j2 k p = 0 := r16_other hn hz fun i hi => by
        rw [e2 i hi]
        have := hpk i hi; have := hr.l1 i hi; have := hr.l3 i hi
        simp only; omega
      have z2 : r16.v n (rget L2) j1 j2 k p = 0 := r16_other hn hz fun i hi => by
        rw [e4 i hi]
        have := hpk i hi; have := hr.l1 i hi; have := hr.l3 i hi
        simp only; omega
      rcases r18_cases (n := n) (g := rget L1) (j1 := j1) (j2 := j2) (p := p) hn hk with ⟨_, _, q⟩ | ⟨hr1, _, b1, c1⟩
      · exact (q z1).elim
      rcases r18_cases (n := n) (g := rget L2) (j1 := j1) (j2 := j2) (p := p) hn hk with ⟨_, _, q⟩ | ⟨hr2, _, b2, c2⟩
      · exact (q z2).elim
      rw [b1, b2]
      simp only [beq_self_eq_true, cond_true]
      -- the single lengths
      have s1 : ∀ i, i < k → (long n (rget L2) j1 p i || short n (rget L2) j2 p i) = badJ n j1 j2 p F i := fun i hi => by
        have hab := pab hr.pl hi
        have q1 : sHi (rget L2) (pa p i) (pb p i) = sumB F (pa p i) (pb p i - pa p i) := sumB_congr _ fun x a b => by rw [e4 x (by omega)]
        have q2 : sLo (rget L2) (pa p i) (pb p i) = sumB F (pa p i) (pb p i - pa p i) := sumB_congr _ fun x a b => by rw [e4 x (by omega)]
        unfold long short badJ lft jb
        rw [q1, q2]
        congr 1
        · exact decide_eq_decide.2 ⟨fun h => by omega, fun h => by omega⟩
        · exact decide_eq_decide.2 ⟨fun h => by omega, fun h => by omega⟩
      have s2 : r18.v0 n (rget L2) j1 j2 k p = !anyN k (badJ n j1 j2 p F) := by
        rw [c2, anyN_congr s1]
      have s3 : (r22.v1 n g j1 j2 k p n F == 0) = !anyN k (badJ n j1 j2 p F) := by
        rcases r22_cases (f := F) hr hk hz with ⟨a1, _⟩ | ⟨_, ⟨t, t1, t2⟩, a3, a4⟩ | ⟨_, a2, a3, a4⟩
        · rw [ho] at a1; cases a1
        · rw [a4, anyN_true.2 ⟨t, t1, t2⟩]; rfl
        · rw [a4, anyN_false.2 a2]; rfl
      rw [s2, s3]
      cases hc : r18.v0 n g j1 j2 k p with
      | false => simp
      | true =>
        rw [c] at hc
        have hc' := anyN_false.1 (by simpa using hc)
        have t1 : r18.v0 n (rget L1) j1 j2 k p = true := by
          rw [c1, anyN_false.2 fun i hi => ?_]; rfl
          have hab := pab hr.pl hi
          have q := hc' i hi
          simp only [Bool.or_eq_false_iff] at q
          have q1 : sHi (rget L1) (pa p i) (pb p i) = sHi g (pa p i) (pb p i) := sumB_congr _ fun x a b => by rw [e2 x (by omega)]
          have q2 : sLo g (pa p i) (pb p i) ≤ sLo (rget L1) (pa p i) (pb p i) := sumB_le _ fun x a b => by rw [e2 x (by omega)]; exact (hpk x (by omega)).1
          obtain ⟨qa, qb⟩ := q
          unfold long at qa ⊢
          unfold short at qb ⊢
          simp only [decide_eq_false_iff_not, Bool.or_eq_false_iff] at qa qb ⊢
          rw [q1]
          omega
        have t2 : anyN k (badJ n j1 j2 p F) = false := anyN_false.2 fun i hi => by
          have q := hc' i hi
          simp only [Bool.or_eq_false_iff] at q
          exact closes_fit hr ho hi q.1 q.2
        rw [t1, t2]; rfl
end Go.Proofs.Ytjdakdjgkpfjkaa
