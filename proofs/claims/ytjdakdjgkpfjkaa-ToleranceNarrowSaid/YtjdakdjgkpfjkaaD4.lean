/- Plain laws: checks of runs, sums of stretches, parts. Conditions: none. -/
import Derived.Test.YtjdakdjgkpfjkaaD3
open Go
namespace Go.Proofs.Ytjdakdjgkpfjkaa
set_option linter.unusedVariables false
set_option linter.unusedSimpArgs false
variable {n k : Nat} {g p : Nat → PD} {m j1 j2 : Int}

theorem i64_small {x : Int} (h : -9223372036854775808 ≤ x ∧ x ≤ 9223372036854775807) : IntKind.i64.wrap x = x := IntWalk.i64_in x (by omega)

/-! ### Searches -/
theorem L59_run (hn : n ≤ 9223372036854775807) : L59.run n g 0 = srch (fun i => r38.v (g i)) (fun i => .e0 i) .e1 0 n := by
  have := search_eq (n := n) (fun i => r38.v (g i)) (fun i => L59.O.e0 i) .e1 (N := L59.N n g) (fun k i h => by
    simp only [L59.N, wrap_succ hn h, Int.toNat_natCast]; rw [decide_eq_true (by omega)]; rfl) (fun k => by simp [L59.N]) (n + 1) 0 (Nat.zero_le _) (by omega)
  simpa [L59.run, L59.mu] using this
theorem L77_run (hn : n ≤ 9223372036854775807) : L77.run n g 0 = srch (fun i => r61.v (g i)) (fun i => .e0 i) .e1 0 n := by
  have := search_eq (n := n) (fun i => r61.v (g i)) (fun i => L77.O.e0 i) .e1 (N := L77.N n g) (fun k i h => by
    simp only [L77.N, wrap_succ hn h, Int.toNat_natCast]; rw [decide_eq_true (by omega)]; rfl) (fun k => by simp [L77.N]) (n + 1) 0 (Nat.zero_le _) (by omega)
  simpa [L77.run, L77.mu] using this
theorem r37_any (hn : n ≤ 9223372036854775807) : r37.v n g = anyN n fun i => r38.v (g i) := by
  unfold r37.v r59.v
  rw [L59_run hn]
  rcases srch_cases (fun i => r38.v (g i)) (fun i => L59.O.e0 i) .e1 n 0 with ⟨h1, h2⟩ | ⟨j, h1, h2, h3, h4, h5⟩
  · rw [h2, anyN_false.2 fun i hi => h1 i (Nat.zero_le _) (by omega)]; rfl
  · rw [h5, anyN_true.2 ⟨j, by omega, h3⟩]; simp
theorem r60_any (hn : n ≤ 9223372036854775807) : r60.v n g = anyN n fun i => r61.v (g i) := by
  unfold r60.v r77.v
  rw [L77_run hn]
  rcases srch_cases (fun i => r61.v (g i)) (fun i => L77.O.e0 i) .e1 n 0 with ⟨h1, h2⟩ | ⟨j, h1, h2, h3, h4, h5⟩
  · rw [h2, anyN_false.2 fun i hi => h1 i (Nat.zero_le _) (by omega)]; rfl
  · rw [h5, anyN_true.2 ⟨j, by omega, h3⟩]; simp

/-- A place that is out of order. -/
def plB (g : Nat → PD) (m : Int) (i : Nat) : Bool := decide ((g i).lo < 1) || decide ((g i).lo > m) || (decide (0 < i) && decide ((g (i - 1)).lo ≥ (g i).lo))

theorem pred_idx {i : Nat} (hn : n ≤ 9223372036854775807) (hi : i < n) (h : 0 < i) : (IntKind.i64.wrap ((i : Int) - 1)).toNat = i - 1 := by
  rw [i64_small (by omega)]; omega

theorem L40_run (hn : n ≤ 9223372036854775807) : L40a.run n g m 0 = bif anyN n (plB g m) then .e0 else .e1 := by
  have := search_eq (n := n) (plB g m) (fun _ => L40a.O.e0) .e1 (N := L40a.N n g m) (fun k i h => by
    simp only [L40a.N, wrap_succ hn h, Int.toNat_natCast]
    rw [decide_eq_true (show (i : Int) < n by omega)]
    unfold plB
    by_cases hi : 0 < i
    · rw [pred_idx hn h hi]
      cases decide ((g i).lo < 1) <;> cases decide ((g i).lo > m) <;> cases decide ((g (i - 1)).lo ≥ (g i).lo) <;> simp [hi]
    · obtain rfl : i = 0 := by omega
      cases decide ((g 0).lo < 1) <;> cases decide ((g 0).lo > m) <;> simp) (fun k => by simp [L40a.N]) (n + 1) 0 (Nat.zero_le _) (by omega)
  rw [srch_any] at this
  simpa [L40a.run, L40a.mu] using this
theorem L35a_run (hn : n ≤ 9223372036854775807) : L35a.run n g m 0 = bif anyN n (plB g m) then .e0 else .e1 := by
  have := search_eq (n := n) (plB g m) (fun _ => L35a.O.e0) .e1 (N := L35a.N n g m) (fun k i h => by
    simp only [L35a.N, wrap_succ hn h, Int.toNat_natCast]
    rw [decide_eq_true (show (i : Int) < n by omega)]
    unfold plB
    by_cases hi : 0 < i
    · rw [pred_idx hn h hi]
      cases decide ((g i).lo < 1) <;> cases decide ((g i).lo > m) <;> cases decide ((g (i - 1)).lo ≥ (g i).lo) <;> simp [hi]
    · obtain rfl : i = 0 := by omega
      cases decide ((g 0).lo < 1) <;> cases decide ((g 0).lo > m) <;> simp) (fun k => by simp [L35a.N]) (n + 1) 0 (Nat.zero_le _) (by omega)
  rw [srch_any] at this
  simpa [L35a.run, L35a.mu] using this
theorem L35b_run (hn : n ≤ 9223372036854775807) : L35b.run n g 0 = bif anyN n (fun i => r61.v (g i)) then .e0 else .e1 := by
  have := search_eq (n := n) (fun i => r61.v (g i)) (fun _ => L35b.O.e0) .e1 (N := L35b.N n g) (fun k i h => by
    simp only [L35b.N, wrap_succ hn h, Int.toNat_natCast]
    rw [decide_eq_true (show (i : Int) < n by omega)]
    unfold r61.v
    cases decide ((g i).hi < 1) <;> cases decide ((g i).hi > 1000000000) <;> rfl) (fun k => by simp [L35b.N]) (n + 1) 0 (Nat.zero_le _) (by omega)
  rw [srch_any] at this
  simpa [L35b.run, L35b.mu] using this
theorem L15_run (hn : n ≤ 9223372036854775807) : L15a.run n g 0 = bif anyN n (fun i => r38.v (g i)) then .e0 else .e1 := by
  have := search_eq (n := n) (fun i => r38.v (g i)) (fun _ => L15a.O.e0) .e1 (N := L15a.N n g) (fun k' i h => by
    simp only [L15a.N, wrap_succ hn h, Int.toNat_natCast]
    rw [decide_eq_true (show (i : Int) < n by omega)]
    unfold r38.v
    cases decide ((g i).lo < 1) <;> cases decide ((g i).lo > (g i).hi) <;> cases decide ((g i).hi > 1000000) <;> rfl) (fun k => by simp [L15a.N]) (n + 1) 0 (Nat.zero_le _) (by omega)
  rw [srch_any] at this
  simpa [L15a.run, L15a.mu] using this

/-- The checks say the same. -/
theorem places_same (hn : n ≤ 9223372036854775807) : r35.v n g m = r40.v n g m := by
  unfold r35.v r40.v
  rw [L40_run hn, L35a_run hn, L35b_run hn, r60_any hn]
  cases anyN n (plB g m) <;> cases anyN n (fun i => r61.v (g i)) <;> rfl
theorem check_same (hn : n ≤ 9223372036854775807) (hk : k ≤ 9223372036854775807) : r15.v n g j1 j2 k p = r16.v n g j1 j2 k p := by
  unfold r15.v r16.v r36.v
  rw [L15_run hn, r37_any hn, places_same hk]
  rw [show r39.v j1 j2 = r34.v j1 j2 from rfl]
  cases decide ((n : Int) > 512) <;> cases ((n : Int) == 0) <;> cases anyN n (fun i => r38.v (g i)) <;> cases r34.v j1 j2 <;> rfl

/-! ### Valid runs -/
structure PlOk (n k : Nat) (p : Nat → PD) : Prop where
  pos : 0 < k
  last : (p (k - 1)).lo = n
  lo : ∀ i, i < k → 1 ≤ (p i).lo
  hi : ∀ i, i < k → (p i).lo ≤ n
  inc : ∀ i, i + 1 < k → (p i).lo < (p (i + 1)).lo
  at1 : ∀ i, i < k → 1 ≤ (p i).hi
  at2 : ∀ i, i < k → (p i).hi ≤ 1000000000
structure ROk (n : Nat) (g : Nat → PD) (j1 j2 : Int) (k : Nat) (p : Nat → PD) : Prop where
  pos : 0 < n
  le : n ≤ 512
  l1 : ∀ i, i < n → 1 ≤ (g i).lo
  l2 : ∀ i, i < n → (g i).lo ≤ (g i).hi
  l3 : ∀ i, i < n → (g i).hi ≤ 1000000
  ja : 0 ≤ j1
  jb : j1 ≤ j2
  jc : j2 ≤ 1000
  pl : PlOk n k p

theorem plB_false {i : Nat} (h : plB g m i = false) : 1 ≤ (g i).lo ∧ (g i).lo ≤ m ∧ (0 < i → (g (i - 1)).lo < (g i).lo) := by
  unfold plB at h
  simp only [Bool.or_eq_false_iff, Bool.and_eq_false_iff, decide_eq_false_iff_not] at h
  exact ⟨by omega, by omega, fun hi => by rcases h.2 with q | q <;> omega⟩

theorem placed_ok (hk : k ≤ 9223372036854775807) (h : r40.v k p n = 0) : PlOk n k p := by
  unfold r40.v at h
  rw [L40_run hk, r60_any hk] at h
  cases h0 : ((k : Int) == 0) with
  | true => rw [h0] at h; simp at h
  | false =>
    have h0' : k ≠ 0 := fun e => by subst e; simp at h0
    rw [h0] at h
    have hlast : (IntKind.i64.wrap ((k : Int) - 1)).toNat = k - 1 := by rw [i64_small (by omega)]; omega
    rw [hlast] at h
    cases h1 : ((p (k - 1)).lo == (n : Int)) with
    | false => rw [h1] at h; simp at h
    | true =>
      rw [h1] at h
      cases h2 : anyN k (plB p n) with
      | true => rw [h2] at h; simp at h
      | false =>
        rw [h2] at h
        cases h3 : anyN k (fun i => r61.v (p i)) with
        | true => rw [h3] at h; simp at h
        | false =>
          have a := fun i hi => plB_false (anyN_false.1 h2 i hi)
          have b : ∀ i, i < k → 1 ≤ (p i).hi ∧ (p i).hi ≤ 1000000000 := fun i hi => by
            have := anyN_false.1 h3 i hi
            unfold r61.v at this
            cases h4 : decide ((p i).hi < 1) with
            | true => rw [h4] at this; cases this
            | false =>
              rw [h4] at this
              have := of_decide_eq_false this
              have := of_decide_eq_false h4
              omega
          exact ⟨by omega, eq_of_beq h1, fun i hi => (a i hi).1, fun i hi => (a i hi).2.1, fun i hi => (a (i + 1) hi).2.2 (by omega), fun i hi => (b i hi).1, fun i hi => (b i hi).2⟩

theorem checked (hn : n ≤ 9223372036854775807) (hk : k ≤ 9223372036854775807) (h : r16.v n g j1 j2 k p = 0) : ROk n g j1 j2 k p := by
  unfold r16.v at h
  rw [r37_any hn] at h
  cases h1 : (r36.v (n : Int) == 0) with
  | false => rw [h1] at h; simp only [cond_false] at h; rw [h] at h1; cases h1
  | true =>
    rw [h1] at h
    cases h2 : anyN n (fun i => r38.v (g i)) with
    | true => rw [h2] at h; simp at h
    | false =>
      rw [h2] at h
      cases h3 : r39.v j1 j2 with
      | false => rw [h3] at h; simp at h
      | true =>
        rw [h3] at h
        have hl : ∀ i, i < n → 1 ≤ (g i).lo ∧ (g i).lo ≤ (g i).hi ∧ (g i).hi ≤ 1000000 := fun i hi => by
          have := anyN_false.1 h2 i hi
          unfold r38.v at this
          cases q1 : decide ((g i).lo < 1) <;> cases q2 : decide ((g i).lo > (g i).hi) <;> rw [q1, q2] at this <;> simp at this q1 q2
          omega
        have hn' : 0 < n ∧ n ≤ 512 := by
          have := eq_of_beq h1
          unfold r36.v at this
          cases q1 : decide ((n : Int) > 512) with
          | true => rw [q1] at this; simp at this
          | false =>
            rw [q1] at this
            cases q2 : ((n : Int) == 0) with
            | true => rw [q2] at this; simp at this
            | false =>
              have q3 := of_decide_eq_false q1
              have q4 : (n : Int) ≠ 0 := ne_of_beq_false q2
              omega
        have hj : 0 ≤ j1 ∧ j1 ≤ j2 ∧ j2 ≤ 1000 := by
          unfold r39.v at h3
          cases q1 : decide (j1 ≥ 0) <;> cases q2 : decide (j1 ≤ j2) <;> rw [q1, q2] at h3 <;> simp at h3 q1 q2
          omega
        exact ⟨hn'.1, hn'.2, fun i hi => (hl i hi).1, fun i hi => (hl i hi).2.1, fun i hi => (hl i hi).2.2, hj.1, hj.2.1, hj.2.2, placed_ok hk h⟩

/-! ### Sums -/
def sumB (f : Nat → Int) (u : Nat) : Nat → Int
  | 0 => 0
  | c + 1 => sumB f u c + f (u + c)

theorem sumB_bd {f : Nat → Int} {u : Nat} {b : Int} : ∀ c, (∀ i, u ≤ i → i < u + c → 0 ≤ f i ∧ f i ≤ b) → 0 ≤ sumB f u c ∧ sumB f u c ≤ c * b := by
  intro c
  induction c with
  | zero => intro _; simp [sumB]
  | succ c ih =>
    intro h
    have h1 := ih fun i a b => h i a (by omega)
    have h2 := h (u + c) (by omega) (by omega)
    simp only [sumB]
    rw [show ((c + 1 : Nat) : Int) * b = c * b + b by rw [Int.natCast_add, Int.add_mul]; simp]
    omega

/-- The program's sums of a stretch. -/
theorem L33_run (u w : Nat) (hw : w ≤ 512) (hu : u ≤ w) (hg : ∀ i, u ≤ i → i < w → 0 ≤ (g i).lo ∧ (g i).lo ≤ 1000000 ∧ 0 ≤ (g i).hi ∧ (g i).hi ≤ 1000000) :
    ∀ m c, c ≤ w - u → w - u - c < m → ∃ a b, L33a.N g u w m c (sumB (fun i => (g i).lo) u c) (sumB (fun i => (g i).hi) u c) = .e0 a b ∧ a = sumB (fun i => (g i).lo) u (w - u) ∧ b = sumB (fun i => (g i).hi) u (w - u) := by
  intro m
  induction m with
  | zero => intro c _ h; omega
  | succ m ih =>
    intro c hc hm
    simp only [L33a.N, Int.toNat_natCast]
    by_cases h : c < w - u
    · rw [decide_eq_true (show (c : Int) < ((w - u : Nat) : Int) by omega), wrap_succ (n := w - u) (by omega) h]
      simp only [cond_true, r58.v0, r58.v1]
      have b1 := sumB_bd (f := fun i => (g i).lo) (u := u) (b := 1000000) c fun i a b => ⟨(hg i a (by omega)).1, (hg i a (by omega)).2.1⟩
      have b2 := sumB_bd (f := fun i => (g i).hi) (u := u) (b := 1000000) c fun i a b => ⟨(hg i a (by omega)).2.2.1, (hg i a (by omega)).2.2.2⟩
      have b3 := hg (u + c) (by omega) (by omega)
      rw [i64_small (by omega), i64_small (by omega)]
      exact ih (c + 1) h (by omega)
    · obtain rfl : c = w - u := by omega
      rw [decide_eq_false (by omega)]
      exact ⟨_, _, rfl, rfl, rfl⟩
theorem L33x_run (u w : Nat) (hw : w ≤ 512) (hu : u ≤ w) (hg : ∀ i, u ≤ i → i < w → 0 ≤ (g i).lo ∧ (g i).lo ≤ 1000000 ∧ 0 ≤ (g i).hi ∧ (g i).hi ≤ 1000000) :
    ∀ m c, c ≤ w - u → w - u - c < m → ∃ a b, L33ax.N g u w m c (sumB (fun i => (g i).lo) u c) (sumB (fun i => (g i).hi) u c) = .e0 a b ∧ a = sumB (fun i => (g i).lo) u (w - u) ∧ b = sumB (fun i => (g i).hi) u (w - u) := by
  intro m
  induction m with
  | zero => intro c _ h; omega
  | succ m ih =>
    intro c hc hm
    simp only [L33ax.N, Int.toNat_natCast]
    by_cases h : c < w - u
    · rw [decide_eq_true (show (c : Int) < ((w - u : Nat) : Int) by omega), wrap_succ (n := w - u) (by omega) h]
      simp only [cond_true, r58.v0, r58.v1]
      have b1 := sumB_bd (f := fun i => (g i).lo) (u := u) (b := 1000000) c fun i a b => ⟨(hg i a (by omega)).1, (hg i a (by omega)).2.1⟩
      have b2 := sumB_bd (f := fun i => (g i).hi) (u := u) (b := 1000000) c fun i a b => ⟨(hg i a (by omega)).2.2.1, (hg i a (by omega)).2.2.2⟩
      have b3 := hg (u + c) (by omega) (by omega)
      rw [i64_small (by omega), i64_small (by omega)]
      exact ih (c + 1) h (by omega)
    · obtain rfl : c = w - u := by omega
      rw [decide_eq_false (by omega)]
      exact ⟨_, _, rfl, rfl, rfl⟩

/-- How many joints a stretch has. -/
def jn (n u w : Nat) : Int := (w : Int) - u - (if w = n then 1 else 0)
def sLo (g : Nat → PD) (u w : Nat) : Int := sumB (fun i => (g i).lo) u (w - u)
def sHi (g : Nat → PD) (u w : Nat) : Int := sumB (fun i => (g i).hi) u (w - u)

theorem r33_eq (h : ROk n g j1 j2 k p) {u w : Nat} (hu : u ≤ w) (hw : w ≤ n) : r33.v0 n g u w = sLo g u w ∧ r33.v1 n g u w = sHi g u w ∧ r33.v2 n g u w = jn n u w := by
  have hn := h.le
  have hg : ∀ i, u ≤ i → i < w → 0 ≤ (g i).lo ∧ (g i).lo ≤ 1000000 ∧ 0 ≤ (g i).hi ∧ (g i).hi ≤ 1000000 := fun i _ hi => by
    have := h.l1 i (by omega); have := h.l2 i (by omega); have := h.l3 i (by omega); omega
  obtain ⟨a, b, e1, e2, e3⟩ := L33_run (g := g) u w (by omega) hu hg (w - u + 1) 0 (by omega) (by omega)
  obtain ⟨a', b', f1, f2, f3⟩ := L33x_run (g := g) u w (by omega) hu hg (w - u + 1) 0 (by omega) (by omega)
  have e1' : L33a.run g u w 0 0 0 = .e0 a b := by simpa [L33a.run, L33a.mu, sumB] using e1
  have f1' : L33ax.run g u w 0 0 0 = .e0 a' b' := by simpa [L33ax.run, L33ax.mu, sumB] using f1
  unfold r33.v0 r33.v1 r33.v2 sLo sHi jn
  rw [e1', f1']
  cases hq : ((w : Int) == (n : Int)) with
  | true =>
    have hq' : w = n := by have := eq_of_beq hq; omega
    simp only [cond_true]
    refine ⟨e2, e3, ?_⟩
    rw [i64_small (x := (w : Int) - u) (by omega), i64_small (by omega), if_pos hq']
  | false =>
    have hq' : w ≠ n := fun e => by subst e; simp at hq
    simp only [cond_false]
    refine ⟨f2, f3, ?_⟩
    rw [i64_small (by omega), if_neg hq']
    omega

/-! ### Parts -/
def ptB (p : Nat → PD) (i : Nat) : PT := ⟨if i = 0 then 0 else (p (i - 1)).lo, (p i).lo, (p i).hi - (if i = 0 then 0 else (p (i - 1)).hi)⟩

theorem L42_run (hk : k ≤ 9223372036854775807) (hp : ∀ i, i < k → 1 ≤ (p i).hi ∧ (p i).hi ≤ 1000000000) : ∀ m i v l a b, i ≤ k → k - i < m → a = (if i = 0 then 0 else (p (i - 1)).lo) → b = (if i = 0 then 0 else (p (i - 1)).hi) →
    ∃ v' a' b', L42a.N k p m v l i a b = .e0 v' (((List.range' i (k - i)).map (ptB p)).reverse ++ l) a' b' := by
  intro m
  induction m with
  | zero => intro i v l a b _ h; omega
  | succ m ih =>
    intro i v l a b hi hm ha hb
    simp only [L42a.N, Int.toNat_natCast]
    by_cases h : i < k
    · rw [decide_eq_true (show (i : Int) < k by omega), wrap_succ hk h]
      simp only [cond_true]
      have hroom : IntKind.i64.wrap ((p i).hi - b) = (ptB p i).room := by
        have h1 := hp i h
        unfold ptB
        rw [← hb]
        by_cases e : i = 0
        · rw [if_pos e] at hb; rw [i64_small (by omega)]
        · have h2 := hp (i - 1) (by omega)
          rw [if_neg e] at hb
          rw [i64_small (by omega)]
      obtain ⟨v', a', b', e⟩ := ih (i + 1) (v + 1) (PT.mk a (p i).lo (IntKind.i64.wrap ((p i).hi - b)) :: l) (p i).lo (p i).hi h (by omega) (by simp) (by simp)
      refine ⟨v', a', b', ?_⟩
      rw [e, hroom, show k - i = (k - (i + 1)) + 1 by omega, List.range'_succ, List.map_cons, List.reverse_cons, List.append_assoc]
      have hpt : (PT.mk a (p i).lo (ptB p i).room) = ptB p i := by unfold ptB; rw [← ha]
      rw [hpt]; rfl
    · obtain rfl : i = k := by omega
      rw [decide_eq_false (by omega)]
      exact ⟨v, a, b, by simp⟩

theorem r42_eq (h : ROk n g j1 j2 k p) (hk : k ≤ 30) : r42.v k p = ((List.range k).map (ptB p)).reverse := by
  obtain ⟨v', a', b', e⟩ := L42_run (p := p) (k := k) (by omega) (fun i hi => ⟨h.pl.at1 i hi, h.pl.at2 i hi⟩) (k + 1) 0 0 [] 0 0 (Nat.zero_le _) (by omega) rfl rfl
  unfold r42.v
  have e' : L42a.run k p 0 [] 0 0 0 = .e0 v' (((List.range' 0 (k - 0)).map (ptB p)).reverse ++ []) a' b' := by simpa [L42a.run, L42a.mu] using e
  rw [e', List.append_nil, Nat.sub_zero, List.range_eq_range']

theorem rget_rev {D : Type} [Inhabited D] (f : Nat → D) {k i : Nat} (hi : i < k) : rget ((List.range k).map f).reverse i = f i := by
  unfold rget
  rw [List.getD_eq_getElem?_getD, List.getElem?_reverse (by simp; omega)]
  simp only [List.length_reverse, List.length_map, List.length_range]
  rw [show k - 1 - (k - 1 - i) = i by omega, List.getElem?_map, List.getElem?_range hi]
  rfl

theorem part_get (h : ROk n g j1 j2 k p) (hk : k ≤ 30) {i : Nat} (hi : i < k) : rget (r42.v k p) i = ptB p i := by
  rw [r42_eq h hk, rget_rev _ hi]
theorem part_len (h : ROk n g j1 j2 k p) (hk : k ≤ 30) : (r42.v k p).length = k := by
  rw [r42_eq h hk]; simp

theorem pl_mono (h : PlOk n k p) : ∀ i j, i ≤ j → j < k → (p i).lo ≤ (p j).lo := by
  intro i j hij
  induction hij with
  | refl => intro _; exact Int.le_refl _
  | @step m h' ih => intro hj; have := h.inc m hj; have := ih (by omega); show (p i).lo ≤ (p (m + 1)).lo; omega

/-- A part's stones. -/
theorem pt_bd (h : PlOk n k p) {i : Nat} (hi : i < k) : 0 ≤ (ptB p i).a ∧ (ptB p i).a < (ptB p i).b ∧ (ptB p i).b ≤ n ∧ 1 ≤ (ptB p i).b := by
  have h1 := h.lo i hi
  have h2 := h.hi i hi
  unfold ptB
  by_cases e : i = 0
  · simp only [if_pos e]; omega
  · simp only [if_neg e]
    have h3 := h.lo (i - 1) (by omega)
    have h4 := h.inc (i - 1) (by omega)
    rw [show i - 1 + 1 = i by omega] at h4
    omega

theorem bd_parts (h : ROk n g j1 j2 k p) (hk : k ≤ 30) : (r42.v k p).length ≤ 30 := by rw [part_len h hk]; exact hk
theorem hint_a (h : ROk n g j1 j2 k p) (hk : k ≤ 30) {i : Nat} (hi : i < (r42.v k p).length) : 0 ≤ (rget (r42.v k p) i).a := by
  rw [part_len h hk] at hi; rw [part_get h hk hi]; have := pt_bd h.pl hi; omega
theorem hint_b (h : ROk n g j1 j2 k p) (hk : k ≤ 30) {i : Nat} (hi : i < (r42.v k p).length) : (rget (r42.v k p) i).a ≤ (rget (r42.v k p) i).b := by
  rw [part_len h hk] at hi; rw [part_get h hk hi]; have := pt_bd h.pl hi; omega
theorem hint_c (h : ROk n g j1 j2 k p) (hk : k ≤ 30) {i : Nat} (hi : i < (r42.v k p).length) : (rget (r42.v k p) i).b ≤ n := by
  rw [part_len h hk] at hi; rw [part_get h hk hi]; have := pt_bd h.pl hi; omega
theorem hint_d (h : ROk n g j1 j2 k p) (hk : k ≤ 30) {i : Nat} (hi : i < (r42.v k p).length) : (rget (r42.v k p) i).b ≤ 9223372036854775807 := by
  have := hint_c h hk hi; have := h.le; omega
end Go.Proofs.Ytjdakdjgkpfjkaa
