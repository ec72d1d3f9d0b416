/- Plain laws: chosen lengths; what closes for all lengths. Conditions: none. -/
import Derived.Test.YtjdakdjgkpfjkaaD33
import Derived.Test.YtjdakdjgkpfjkaaD14
open Go
namespace Go.Proofs.Ytjdakdjgkpfjkaa
set_option linter.unusedVariables false
set_option linter.unusedSimpArgs false
variable {n : Nat} {g : Nat → PD} {j1 j2 : Int} {k : Nat} {p : Nat → PD} {m : Nat} {f : Nat → Int}

/-- One chosen length. -/
def pk (g : Nat → PD) (m : Nat) (f : Nat → Int) (i : Nat) : Int :=
  if i < m ∧ f i > 0 then (g i).lo + (f i).tmod ((g i).hi - (g i).lo + 1) else (g i).lo
theorem pk_bd (h : ROk n g j1 j2 k p) {i : Nat} (hi : i < n) : (g i).lo ≤ pk g m f i ∧ pk g m f i ≤ (g i).hi := by
  have h2 := h.l2 i hi
  unfold pk
  split
  · next c =>
    have a := Int.tmod_nonneg ((g i).hi - (g i).lo + 1) (Int.le_of_lt c.2)
    have b := Int.tmod_lt_of_pos (f i) (show 0 < (g i).hi - (g i).lo + 1 by omega)
    omega
  · omega

theorem L30_run (h : ROk n g j1 j2 k p) : ∀ q c v l, c ≤ n → n - c < q → ∃ v', L30a.N n g m f q v l (c : Int) = .e0 v' (l ++ (List.range' c (n - c)).map (pk g m f)) := by
  have hn := h.le
  intro q
  induction q with
  | zero => intro c v l _ h; omega
  | succ q ih =>
    intro c v l hc hq
    simp only [L30a.N, Int.toNat_natCast]
    by_cases hlt : c < n
    · have h1 := h.l1 c hlt
      have h2 := h.l2 c hlt
      have h3 := h.l3 c hlt
      have hb := pk_bd (m := m) (f := f) h hlt
      have w1 : IntKind.i64.wrap (IntKind.i64.wrap ((g c).hi - (g c).lo) + 1) = (g c).hi - (g c).lo + 1 := by
        rw [i64_small (x := (g c).hi - (g c).lo) (by omega), i64_small (by omega)]
      have w2 : IntKind.i64.wrap ((g c).lo + 0) = (g c).lo + 0 := i64_small (by omega)
      simp only [w1, w2]
      rw [decide_eq_true (show (c : Int) < (n : Int) by omega), wrap_succ (n := n) (by omega) hlt, range_step _ hlt, decide_eq_true (show (g c).hi - (g c).lo + 1 > 0 by omega)]
      simp only [cond_true]
      by_cases c1 : c < m
      · by_cases c2 : f c > 0
        · have e : pk g m f c = (g c).lo + (f c).tmod ((g c).hi - (g c).lo + 1) := by unfold pk; rw [if_pos ⟨c1, c2⟩]
          rw [decide_eq_true (show (c : Int) < (m : Int) by omega), decide_eq_true c2]
          simp only [cond_true]
          rw [← e, i64_small (by omega)]
          obtain ⟨v', q1⟩ := ih (c + 1) (v + 1) (l ++ [pk g m f c]) hlt (by omega)
          exact ⟨v', by rw [q1, List.append_assoc]; rfl⟩
        · have e : pk g m f c = (g c).lo + 0 := by unfold pk; rw [if_neg fun q => c2 q.2]; omega
          rw [decide_eq_true (show (c : Int) < (m : Int) by omega), decide_eq_false c2]
          simp only [cond_true, cond_false]
          rw [← e]
          obtain ⟨v', q1⟩ := ih (c + 1) (v + 1) (l ++ [pk g m f c]) hlt (by omega)
          exact ⟨v', by rw [q1, List.append_assoc]; rfl⟩
      · have e : pk g m f c = (g c).lo + 0 := by unfold pk; rw [if_neg fun q => c1 q.1]; omega
        rw [decide_eq_false (show ¬ (c : Int) < (m : Int) by omega)]
        simp only [cond_false]
        rw [← e]
        obtain ⟨v', q1⟩ := ih (c + 1) (v + 1) (l ++ [pk g m f c]) hlt (by omega)
        exact ⟨v', by rw [q1, List.append_assoc]; rfl⟩
    · rw [decide_eq_false (by omega), show n - c = 0 by omega]
      exact ⟨v, by simp⟩

theorem r30_eq (h : ROk n g j1 j2 k p) : r30.v n g m f = (List.range' 0 n).map (pk g m f) := by
  obtain ⟨v', e⟩ := L30_run (m := m) (f := f) h (n + 1) 0 0 [] (Nat.zero_le _) (by omega)
  have e' : L30a.run n g m f 0 [] 0 = .e0 v' ((List.range' 0 n).map (pk g m f)) := by simpa [L30a.run] using e
  unfold r30.v
  rw [e']
theorem r30_len (h : ROk n g j1 j2 k p) : (r30.v n g m f).length = n := by rw [r30_eq h]; simp
theorem r30_get (h : ROk n g j1 j2 k p) {i : Nat} (hi : i < n) : (r30.v n g m f).getD i 0 = pk g m f i := by
  rw [r30_eq h]; simp [List.getD_eq_getElem?_getD, List.getElem?_range', hi]
theorem okL_intro {m : Nat} (h : ∀ i, i < m → (g i).lo ≤ f i ∧ f i ≤ (g i).hi) : okL g m f = true := by
  unfold okL
  rw [anyN_false.2 fun i hi => by have := h i hi; simp only [Bool.or_eq_false_iff, decide_eq_false_iff_not]; omega]
  rfl
theorem okL_elim {m : Nat} (h : okL g m f = true) : ∀ i, i < m → (g i).lo ≤ f i ∧ f i ≤ (g i).hi := by
  intro i hi
  have := anyN_false.1 (by simpa [okL] using h) i hi
  simp only [Bool.or_eq_false_iff, decide_eq_false_iff_not] at this
  omega
theorem pick_ok (h : ROk n g j1 j2 k p) : okL g n (fun i => (r30.v n g m f).getD i 0) = true :=
  okL_intro fun i hi => by rw [r30_get h hi]; exact pk_bd h hi

theorem sumB_le {f f' : Nat → Int} {u : Nat} : ∀ c, (∀ i, u ≤ i → i < u + c → f i ≤ f' i) → sumB f u c ≤ sumB f' u c := by
  intro c
  induction c with
  | zero => intro _; simp [sumB]
  | succ c ih =>
    intro h
    have h1 := ih fun i a b => h i a (by omega)
    have h2 := h (u + c) (by omega) (by omega)
    simp only [sumB]
    omega
theorem sumB_congr {f f' : Nat → Int} {u : Nat} : ∀ c, (∀ i, u ≤ i → i < u + c → f i = f' i) → sumB f u c = sumB f' u c := by
  intro c h
  have a := sumB_le (f := f) (f' := f') (u := u) c fun i a b => Int.le_of_eq (h i a b)
  have b := sumB_le (f := f') (f' := f) (u := u) c fun i a b => Int.le_of_eq (h i a b).symm
  omega

/-- A part's sum of lengths within their intervals. -/
theorem part_bd (h : ROk n g j1 j2 k p) (ho : okL g n f = true) {i : Nat} (hi : i < k) :
    prm p i - sHi g (pa p i) (pb p i) ≤ lft p f i ∧ lft p f i ≤ prm p i - sLo g (pa p i) (pb p i) := by
  have hab := pab h.pl hi
  have hb := okL_elim ho
  have a := sumB_le (f := fun i => (g i).lo) (f' := f) (u := pa p i) (pb p i - pa p i) fun j a b => (hb j (by omega)).1
  have b := sumB_le (f := f) (f' := fun i => (g i).hi) (u := pa p i) (pb p i - pa p i) fun j a b => (hb j (by omega)).2
  unfold lft sHi sLo
  omega

/-- A run that closes has widths for all lengths. -/
theorem closes_fit (h : ROk n g j1 j2 k p) (ho : okL g n f = true) {i : Nat} (hi : i < k) (h1 : long n g j1 p i = false) (h2 : short n g j2 p i = false) : badJ n j1 j2 p f i = false := by
  have b := part_bd h ho hi
  unfold long at h1
  unfold short at h2
  unfold badJ jb
  simp only [decide_eq_false_iff_not, Bool.or_eq_false_iff] at h1 h2 ⊢
  omega

/-- Closes, in plain words. -/
theorem r18_cases (hn : n ≤ 9223372036854775807) (hk : k ≤ 30) :
    (r18.v0 n g j1 j2 k p = false ∧ r18.v1 n g j1 j2 k p ≠ 0 ∧ r16.v n g j1 j2 k p ≠ 0) ∨
    (ROk n g j1 j2 k p ∧ r16.v n g j1 j2 k p = 0 ∧ r18.v1 n g j1 j2 k p = 0 ∧ r18.v0 n g j1 j2 k p = !anyN k fun i => long n g j1 p i || short n g j2 p i) := by
  unfold r18.v0 r18.v1
  cases hz : (r16.v n g j1 j2 k p == 0) with
  | false => exact .inl ⟨rfl, by simpa using hz, by simpa using hz⟩
  | true =>
    have hr := checked hn (by omega) (eq_of_beq hz)
    refine .inr ⟨hr, eq_of_beq hz, rfl, ?_⟩
    simp only [cond_true]
    rcases r41_cases hr hk with ⟨a1, a2, _⟩ | ⟨i, a0, a1, _, a2, _⟩
    · rw [a2, anyN_false.2 fun i hi => by rw [(a1 i hi).1, (a1 i hi).2]; rfl]; rfl
    · rw [a2, anyN_true.2 ⟨i, a0, a1⟩, decide_eq_false (by omega)]; rfl

/-! ### The widths of a part -/
theorem wdt_facts (h : ROk n g j1 j2 k p) {i : Nat} (hi : i < k) (hb : badJ n j1 j2 p f i = false) {x : Nat} (hx : x < (jb n p i).toNat) :
    j1 ≤ wdt (lft p f i) (jb n p i) x ∧ wdt (lft p f i) (jb n p i) x ≤ j2 := by
  have hm := bad_mul h hi
  unfold badJ at hb
  simp only [decide_eq_false_iff_not, Bool.or_eq_false_iff] at hb
  have hJ : 0 < jb n p i := by omega
  have h0 : 0 ≤ lft p f i := by omega
  have hd := Int.mul_tdiv_add_tmod (lft p f i) (jb n p i)
  have r0 := Int.tmod_nonneg (jb n p i) h0
  have r1 := Int.tmod_lt_of_pos (lft p f i) hJ
  have l1 : j1 ≤ (lft p f i).tdiv (jb n p i) := by
    by_cases c : j1 ≤ (lft p f i).tdiv (jb n p i)
    · exact c
    · have := Int.mul_le_mul_of_nonneg_left (show (lft p f i).tdiv (jb n p i) + 1 ≤ j1 by omega) hm.1
      rw [Int.mul_add, Int.mul_one] at this
      omega
  have l2 : (lft p f i).tdiv (jb n p i) ≤ j2 := by
    by_cases c : (lft p f i).tdiv (jb n p i) ≤ j2
    · exact c
    · have := Int.mul_le_mul_of_nonneg_left (show j2 + 1 ≤ (lft p f i).tdiv (jb n p i) by omega) hm.1
      rw [Int.mul_add, Int.mul_one] at this
      omega
  unfold wdt
  split
  · next c =>
    refine ⟨by omega, ?_⟩
    by_cases e : (lft p f i).tdiv (jb n p i) = j2
    · rw [e] at hd
      omega
    · omega
  · exact ⟨l1, l2⟩

theorem sumB_add2 (f : Nat → Int) (u a : Nat) : ∀ b, sumB f u (a + b) = sumB f u a + sumB f (u + a) b := by
  intro b
  induction b with
  | zero => simp [sumB]
  | succ b ih =>
    rw [← Nat.add_assoc]
    simp only [sumB]
    rw [ih, Nat.add_assoc u a b]
    omega
theorem sumB_const (f : Nat → Int) (w : Int) : ∀ c u, (∀ i, u ≤ i → i < u + c → f i = w) → sumB f u c = c * w := by
  intro c
  induction c with
  | zero => intro u _; simp [sumB]
  | succ c ih =>
    intro u h
    simp only [sumB]
    rw [ih u fun i a b => h i a (by omega), h (u + c) (by omega) (by omega), Int.natCast_add, Int.add_mul]
    simp

theorem wdt_sum {q J : Int} (hq : 0 ≤ q) (hJ : 0 < J) : sumB (wdt q J) 0 J.toNat = q := by
  have hd := Int.mul_tdiv_add_tmod q J
  have r0 := Int.tmod_nonneg J hq
  have r1 := Int.tmod_lt_of_pos q hJ
  have e := sumB_add2 (wdt q J) 0 (q.tmod J).toNat (J.toNat - (q.tmod J).toNat)
  rw [show (q.tmod J).toNat + (J.toNat - (q.tmod J).toNat) = J.toNat by omega] at e
  rw [e, sumB_const (wdt q J) (q.tdiv J + 1) _ 0 (fun i a b => by unfold wdt; rw [if_pos (by omega)]), sumB_const (wdt q J) (q.tdiv J) _ (0 + (q.tmod J).toNat) (fun i a b => by unfold wdt; rw [if_neg (by omega)])]
  rw [show (((q.tmod J).toNat : Nat) : Int) = q.tmod J by omega, show ((J.toNat - (q.tmod J).toNat : Nat) : Int) = J - q.tmod J by omega, Int.mul_add, Int.sub_mul, Int.mul_one]
  omega

/-- The widths of part i stand behind those of the parts before. -/
theorem wLs_get (h : ROk n g j1 j2 k p) : ∀ c i, i + c = k → ∀ t x, i ≤ t → t < k → x < (jb n p t).toNat → (wLs n p f i c).getD (pa p t - pa p i + x) 0 = wdt (lft p f t) (jb n p t) x := by
  intro c
  induction c with
  | zero => intro i hi t x h1 h2; omega
  | succ c ih =>
    intro i hi t x h1 h2 hx
    have hik : i < k := by omega
    have hl := wL_len (f := f) h hik
    have hjf := jb_fit h hik
    have hab := pab h.pl hik
    simp only [wLs, List.getD_eq_getElem?_getD]
    by_cases e : t = i
    · subst e
      rw [Nat.sub_self, Nat.zero_add, List.getElem?_append_left (by omega)]
      unfold wL
      simp [List.getElem?_range', hx]
    · have e1 : pb p i ≠ n := fun q => by have := (pb_last h hik).1 q; omega
      have hj := jb_eq (n := n) (p := p) i
      rw [if_neg e1] at hj
      have e2 := pa_succ h (i := i) (by omega)
      have hmono : pa p (i + 1) ≤ pa p t := by
        have a := pl_mono h.pl i (t - 1) (by omega) (by omega)
        have e3 := pa_succ h (i := t - 1) (by omega)
        rw [show t - 1 + 1 = t by omega] at e3
        rw [e2, e3]
        unfold pb
        omega
      rw [List.getElem?_append_right (by omega), hl]
      have := ih (i + 1) (by omega) t x (by omega) h2 hx
      rw [List.getD_eq_getElem?_getD] at this
      rw [← this, show pa p t - pa p i + x - (jb n p i).toNat = pa p t - pa p (i + 1) + x by omega]

theorem wLs_at (h : ROk n g j1 j2 k p) {t x : Nat} (ht : t < k) (hx : x < (jb n p t).toNat) : (wLs n p f 0 k).getD (pa p t + x) 0 = wdt (lft p f t) (jb n p t) x := by
  have := wLs_get (f := f) h k 0 (by omega) t x (Nat.zero_le _) ht hx
  rwa [show pa p 0 = 0 from rfl, Nat.sub_zero] at this

/-- Every joint belongs to a part. -/
theorem joint_part (h : ROk n g j1 j2 k p) {i : Nat} (hi : i < n - 1) : ∃ t x, t < k ∧ x < (jb n p t).toNat ∧ i = pa p t + x := by
  have key : ∀ c t, t + c = k → i < pa p t → ∃ t x, t < k ∧ x < (jb n p t).toNat ∧ i = pa p t + x := by
    intro c t hc hlt
    induction t generalizing c with
    | zero => have : pa p 0 = 0 := rfl; omega
    | succ t ih =>
      have htk : t + 1 ≤ k := by omega
      by_cases q : i < pa p t
      · exact ih (c + 1) (by omega) q
      · by_cases e : t + 1 < k
        · have e2 := pa_succ h e
          have e1 : pb p t ≠ n := fun q => by have := (pb_last h (by omega)).1 q; omega
          have hj := jb_eq (n := n) (p := p) t
          rw [if_neg e1] at hj
          have hab := pab h.pl (show t < k by omega)
          exact ⟨t, i - pa p t, by omega, by omega, by omega⟩
        · have e1 : pb p t = n := (pb_last h (by omega)).2 (by omega)
          have hj := jb_eq (n := n) (p := p) t
          rw [if_pos e1] at hj
          have hab := pab h.pl (show t < k by omega)
          exact ⟨t, i - pa p t, by omega, by omega, by omega⟩
  have hp := h.pl.pos
  by_cases q : i < pa p (k - 1)
  · exact key 1 (k - 1) (by omega) q
  · have e1 : pb p (k - 1) = n := (pb_last h (by omega)).2 (by omega)
    have hj := jb_eq (n := n) (p := p) (k - 1)
    rw [if_pos e1] at hj
    have hab := pab h.pl (show k - 1 < k by omega)
    exact ⟨k - 1, i - pa p (k - 1), by omega, by omega, by omega⟩

/-- The widths that Joints hands back meet the run. -/
theorem wLs_meets (h : ROk n g j1 j2 k p) (ho : okL g n f = true) (hb : ∀ t, t < k → badJ n j1 j2 p f t = false) : meets n g j1 j2 k p f (fun i => (wLs n p f 0 k).getD i 0) = true := by
  unfold meets
  rw [ho]
  have h1 : okJ j1 j2 (n - 1) (fun i => (wLs n p f 0 k).getD i 0) = true := by
    unfold okJ
    rw [anyN_false.2 fun i hi => ?_]; rfl
    obtain ⟨t, x, h1, h2, rfl⟩ := joint_part h hi
    have := wdt_facts h h1 (hb t h1) h2
    simp only [wLs_at h h1 h2, Bool.or_eq_false_iff, decide_eq_false_iff_not]
    omega
  have h2 : anyN k (fun i => !mtB n p f (fun i => (wLs n p f 0 k).getD i 0) i) = false := anyN_false.2 fun t ht => by
    have hm := bad_mul h ht
    have hbt := hb t ht
    unfold badJ at hbt
    simp only [decide_eq_false_iff_not, Bool.or_eq_false_iff] at hbt
    have hq : sumB (fun i => (wLs n p f 0 k).getD i 0) (pa p t) (jb n p t).toNat = lft p f t := by
      have e : sumB (fun i => (wLs n p f 0 k).getD i 0) (pa p t) (jb n p t).toNat = sumB (wdt (lft p f t) (jb n p t)) 0 (jb n p t).toNat := by
        rw [← sumB_shift (fun i => (wLs n p f 0 k).getD i 0)]
        exact sumB_congr _ fun x a b => wLs_at h ht (by omega)
      rw [e]
      by_cases hJ : 0 < jb n p t
      · exact wdt_sum (by omega) hJ
      · have hz : jb n p t = 0 := by omega
        rw [hz] at hbt ⊢
        simp only [Int.zero_mul] at hbt
        simp [sumB]; omega
    unfold mtB
    rw [hq]; simp
  rw [h1, h2]; rfl

/-! ### Bounds for the walks -/
theorem bd18 (h0 : (r18.v1 n g j1 j2 k p == 0) = true) (hn : n ≤ 9223372036854775807) (hk : k ≤ 30) : ROk n g j1 j2 k p ∧ n ≤ 512 ∧ r16.v n g j1 j2 k p = 0 ∧ ∀ (m : Nat) (f : Nat → Int), (r30.v n g m f).length = n := by
  rcases r18_cases (n := n) (g := g) (j1 := j1) (j2 := j2) (p := p) hn hk with ⟨_, b, _⟩ | ⟨a, b, _⟩
  · exact absurd (eq_of_beq h0) b
  · exact ⟨a, a.le, b, fun m f => r30_len a⟩
theorem bd18a (h0 : (r18.v1 n g j1 j2 k p == 0) = true) (hn : n ≤ 9223372036854775807) (hk : k ≤ 30) : n ≤ 512 := (bd18 h0 hn hk).2.1
theorem len30 (h0 : (r18.v1 n g j1 j2 k p == 0) = true) (hn : n ≤ 9223372036854775807) (hk : k ≤ 30) : (r30.v n g m f).length ≤ 9223372036854775807 := by
  have := bd18 h0 hn hk; have := this.2.2.2 m f; omega
theorem len22 (h0 : (r22.v1 n g j1 j2 k p m f == 0) = true) (hn : n ≤ 9223372036854775807) (hk : k ≤ 30) : (r22.v0 n g j1 j2 k p m f).length ≤ 9223372036854775807 := by
  have := bd22len h0 hn hk; omega
theorem mm_le {a L x : Int} : (if (if L < x then L else x) > a then (if L < x then L else x) else a) ≤ L ∨ (if (if L < x then L else x) > a then (if L < x then L else x) else a) ≤ a := by
  split <;> split <;> omega
theorem mm_0 {a L x : Int} (h : 0 ≤ a) : 0 ≤ (if (if L < x then L else x) > a then (if L < x then L else x) else a) := by
  split <;> split <;> omega
theorem mm_512 {a L x : Int} (h : a ≤ 512) (hL : L ≤ 512) : (if (if L < x then L else x) > a then (if L < x then L else x) else a) ≤ 512 := by
  split <;> split <;> omega
end Go.Proofs.Ytjdakdjgkpfjkaa
